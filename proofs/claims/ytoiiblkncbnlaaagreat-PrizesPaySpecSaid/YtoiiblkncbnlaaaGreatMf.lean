/-
  Texts that belong together, one behind the other; what each of them proves, and under which conditions, its own heading says.
-/
import Derived.Test.YtoiiblkncbnlaaaGreatMe
/-
  Chapter 42: what the reference's check of a table computes; what fits. Conditions: those of each theorem.
-/
set_option linter.unusedVariables false
set_option linter.unusedSimpArgs false
namespace Go.Proofs.YtoiiblkncbnlaaaGreat
open Go.DL
set_option maxHeartbeats 4000000
section
variable {t : Tab} {i : Nat} {x e : Place} {K : Nat ⊕ Int → Prop}
theorem r20_j9 (hi : i ≤ t.l.length) (hl : t.l.length ≤ 1000) (h1 : x.r.c ∉ (t.l.take i).map clubOf → K (.inl (i + 1))) (h2 : x.r.c ∈ (t.l.take i).map clubOf → K (.inr 1)) : WP (g_ref20_Check_j9 i t x) K := by
  unfold g_ref20_Check_j9
  refine WP.loop (fun k => k ≤ i ∧ x.r.c ∉ (t.l.take k).map clubOf) (fun k => i - k) ?_ ⟨by omega, by simp⟩
  rintro k ⟨hk, hn⟩
  simp only [g_ref20_Check_l10]
  refine WP.iteD (fun hlt => ?_) (fun hlt => ?_)
  · obtain ⟨y, hy⟩ : ∃ y, t.l[k]? = some y := ⟨_, List.getElem?_eq_getElem (by omega)⟩
    rw [gn_some hy]
    (repeat' (first | with_reducible (first | refine WP.iteT ?_ | refine WP.iteF ?_ | refine WP.iteNb ?_ | refine WP.iteD (fun _ => ?_) (fun _ => ?_) | refine WP.iteE (fun _ => ?_) (fun _ => ?_) | refine WP.iteN (fun _ => ?_) (fun _ => ?_) | refine WP.iteB (fun _ => ?_) (fun _ => ?_)) | (with_reducible refine WP.ckI ?_ ?_; · omega) | (with_reducible refine WP.gn ?_ (fun _ _ => ?_); · omega) | (with_reducible refine WP.gt ?_ (fun _ _ => ?_); · omega) | with_reducible (first | refine WP.up ?_ | refine WP.letO ?_ | refine WP.ret ?_)))
    · rename_i he
      exact h2 (List.mem_map.2 ⟨y, List.mem_of_getElem? (i := k) (by rw [List.getElem?_take, if_pos (by omega)]; exact hy), he⟩)
    · rename_i he
      refine ⟨⟨by omega, ?_⟩, by dsimp only; omega⟩
      rw [take_snoc hy, List.map_append, List.mem_append]
      rintro (h3 | h3)
      · exact hn h3
      · simp only [List.map_cons, List.map_nil, List.mem_singleton, clubOf] at h3
        exact he h3.symm
  · have : k = i := by omega
    subst this
    unfold g_ref20_Check_j4
    (repeat' (first | with_reducible (first | refine WP.iteT ?_ | refine WP.iteF ?_ | refine WP.iteNb ?_ | refine WP.iteD (fun _ => ?_) (fun _ => ?_) | refine WP.iteE (fun _ => ?_) (fun _ => ?_) | refine WP.iteN (fun _ => ?_) (fun _ => ?_) | refine WP.iteB (fun _ => ?_) (fun _ => ?_)) | (with_reducible refine WP.ckI ?_ ?_; · omega) | (with_reducible refine WP.gn ?_ (fun _ _ => ?_); · omega) | (with_reducible refine WP.gt ?_ (fun _ _ => ?_); · omega) | with_reducible (first | refine WP.up ?_ | refine WP.letO ?_ | refine WP.ret ?_)))
    exact h1 hn
theorem r20_nums (hi : i ≤ t.l.length) (hl : t.l.length ≤ 1000) (h1 : (nums x.r).all inR = true → x.r.c ∉ (t.l.take i).map clubOf → K (.inl (i + 1))) (h2 : (nums x.r).all inR = false ∨ x.r.c ∈ (t.l.take i).map clubOf → K (.inr 1)) : WP (loopO (g_ref20_Check_l11 (nums x.r) i t x) 0) K := by
  refine WP.loop (fun k => k ≤ 9 ∧ ((nums x.r).drop k).all inR = (nums x.r).all inR) (fun k => 9 - k) ?_ ⟨by omega, rfl⟩
  rintro k ⟨hk, iv⟩
  have h9 : (nums x.r).length = 9 := rfl
  simp only [g_ref20_Check_l11]
  refine WP.iteD (fun hlt => ?_) (fun hlt => ?_)
  · obtain ⟨y, hy⟩ : ∃ y, (nums x.r)[k]? = some y := ⟨_, List.getElem?_eq_getElem (by omega)⟩
    rw [gn_some hy]
    have j12 : ∀ b, (b = true ↔ y < 0 ∨ y > 9999) → WP (g_ref20_Check_j12 k i (nums x.r) t x b) (Rnd (fun k => k ≤ 9 ∧ ((nums x.r).drop k).all inR = (nums x.r).all inR) (fun k => 9 - k) (9 - k) K) := fun b hb => by
      unfold g_ref20_Check_j12
      cases b
      · have hnb : ¬ (y < 0 ∨ y > 9999) := fun h => by cases hb.2 h
        (repeat' (first | with_reducible (first | refine WP.iteT ?_ | refine WP.iteF ?_ | refine WP.iteNb ?_ | refine WP.iteD (fun _ => ?_) (fun _ => ?_) | refine WP.iteE (fun _ => ?_) (fun _ => ?_) | refine WP.iteN (fun _ => ?_) (fun _ => ?_) | refine WP.iteB (fun _ => ?_) (fun _ => ?_)) | (with_reducible refine WP.ckI ?_ ?_; · omega) | (with_reducible refine WP.gn ?_ (fun _ _ => ?_); · omega) | (with_reducible refine WP.gt ?_ (fun _ _ => ?_); · omega) | with_reducible (first | refine WP.up ?_ | refine WP.letO ?_ | refine WP.ret ?_)))
        exact ⟨⟨by omega, all_step iv hy (by omega)⟩, by dsimp only; omega⟩
      · have := hb.1 rfl
        (repeat' (first | with_reducible (first | refine WP.iteT ?_ | refine WP.iteF ?_ | refine WP.iteNb ?_ | refine WP.iteD (fun _ => ?_) (fun _ => ?_) | refine WP.iteE (fun _ => ?_) (fun _ => ?_) | refine WP.iteN (fun _ => ?_) (fun _ => ?_) | refine WP.iteB (fun _ => ?_) (fun _ => ?_)) | (with_reducible refine WP.ckI ?_ ?_; · omega) | (with_reducible refine WP.gn ?_ (fun _ _ => ?_); · omega) | (with_reducible refine WP.gt ?_ (fun _ _ => ?_); · omega) | with_reducible (first | refine WP.up ?_ | refine WP.letO ?_ | refine WP.ret ?_)))
        exact h2 (.inl (all_stop iv hy (by omega)))
    (repeat' (first | with_reducible (first | refine WP.iteT ?_ | refine WP.iteF ?_ | refine WP.iteNb ?_ | refine WP.iteD (fun _ => ?_) (fun _ => ?_) | refine WP.iteE (fun _ => ?_) (fun _ => ?_) | refine WP.iteN (fun _ => ?_) (fun _ => ?_) | refine WP.iteB (fun _ => ?_) (fun _ => ?_)) | (with_reducible refine WP.ckI ?_ ?_; · omega) | (with_reducible refine WP.gn ?_ (fun _ _ => ?_); · omega) | (with_reducible refine WP.gt ?_ (fun _ _ => ?_); · omega) | with_reducible (first | refine WP.up ?_ | refine WP.letO ?_ | refine WP.ret ?_)))
    all_goals refine j12 _ ?_
    all_goals try simp only [decide_eq_true_eq, true_iff]
    all_goals omega
  · have he := all_end iv (by omega)
    (repeat' (first | with_reducible (first | refine WP.iteT ?_ | refine WP.iteF ?_ | refine WP.iteNb ?_ | refine WP.iteD (fun _ => ?_) (fun _ => ?_) | refine WP.iteE (fun _ => ?_) (fun _ => ?_) | refine WP.iteN (fun _ => ?_) (fun _ => ?_) | refine WP.iteB (fun _ => ?_) (fun _ => ?_)) | (with_reducible refine WP.ckI ?_ ?_; · omega) | (with_reducible refine WP.gn ?_ (fun _ _ => ?_); · omega) | (with_reducible refine WP.gt ?_ (fun _ _ => ?_); · omega) | with_reducible (first | refine WP.up ?_ | refine WP.letO ?_ | refine WP.ret ?_)))
    exact r20_j9 hi hl (h1 he) fun h => h2 (.inr h)
theorem r20_j8 (hi : i ≤ t.l.length) (hl : t.l.length ≤ 1000) {b : Bool} (hb : b = true ↔ ¬ (x.z.length ≤ 24 ∧ 0 ≤ x.r.c ∧ x.r.c ≤ 191 ∧ -99999 ≤ x.r.po ∧ x.r.po ≤ 99999)) (h1 : x.z.length ≤ 24 → rowOK x.r = true → x.r.c ∉ (t.l.take i).map clubOf → K (.inl (i + 1)))
    (h2 : ¬ (x.z.length ≤ 24 ∧ rowOK x.r = true ∧ x.r.c ∉ (t.l.take i).map clubOf) → K (.inr 1)) : WP (g_ref20_Check_j8 x i t b) K := by
  unfold g_ref20_Check_j8
  cases b
  · have hh : x.z.length ≤ 24 ∧ 0 ≤ x.r.c ∧ x.r.c ≤ 191 ∧ -99999 ≤ x.r.po ∧ x.r.po ≤ 99999 := by
      by_cases h : x.z.length ≤ 24 ∧ 0 ≤ x.r.c ∧ x.r.c ≤ 191 ∧ -99999 ≤ x.r.po ∧ x.r.po ≤ 99999
      · exact h
      · cases hb.2 h
    have hr : rowOK x.r = (nums x.r).all inR := by
      unfold rowOK
      rw [decide_eq_true hh.2, Bool.and_true]
    (first | with_reducible (first | refine WP.iteT ?_ | refine WP.iteF ?_ | refine WP.iteNb ?_ | refine WP.iteD (fun _ => ?_) (fun _ => ?_) | refine WP.iteE (fun _ => ?_) (fun _ => ?_) | refine WP.iteN (fun _ => ?_) (fun _ => ?_) | refine WP.iteB (fun _ => ?_) (fun _ => ?_)) | (with_reducible refine WP.ckI ?_ ?_; · omega) | (with_reducible refine WP.gn ?_ (fun _ _ => ?_); · omega) | (with_reducible refine WP.gt ?_ (fun _ _ => ?_); · omega) | with_reducible (first | refine WP.up ?_ | refine WP.letO ?_ | refine WP.ret ?_))
    refine WP.bd (r := nums x.r) rfl ?_
    refine r20_nums hi hl (fun h3 h4 => h1 hh.1 (by rw [hr]; exact h3) h4) fun h3 => h2 fun h4 => ?_
    rcases h3 with h3 | h3
    · rw [← hr, h4.2.1] at h3; cases h3
    · exact h4.2.2 h3
  · have := hb.1 rfl
    (repeat' (first | with_reducible (first | refine WP.iteT ?_ | refine WP.iteF ?_ | refine WP.iteNb ?_ | refine WP.iteD (fun _ => ?_) (fun _ => ?_) | refine WP.iteE (fun _ => ?_) (fun _ => ?_) | refine WP.iteN (fun _ => ?_) (fun _ => ?_) | refine WP.iteB (fun _ => ?_) (fun _ => ?_)) | (with_reducible refine WP.ckI ?_ ?_; · omega) | (with_reducible refine WP.gn ?_ (fun _ _ => ?_); · omega) | (with_reducible refine WP.gt ?_ (fun _ _ => ?_); · omega) | with_reducible (first | refine WP.up ?_ | refine WP.letO ?_ | refine WP.ret ?_)))
    refine h2 fun h => this ⟨h.1, ?_⟩
    have h3 := h.2.1
    unfold rowOK at h3
    rw [Bool.and_eq_true] at h3
    exact of_decide_eq_true h3.2
theorem r20_j7 (hi : i ≤ t.l.length) (hl : t.l.length ≤ 1000) {b : Bool} (hb : b = true ↔ ¬ shapeOK i e x) (h1 : placeOK i e ((t.l.take i).map clubOf) x → K (.inl (i + 1)))
    (h2 : ¬ placeOK i e ((t.l.take i).map clubOf) x → K (.inr 1)) : WP (g_ref20_Check_j7 x i t b) K := by
  unfold g_ref20_Check_j7
  cases b
  · have hs : shapeOK i e x := by
      by_cases h : shapeOK i e x
      · exact h
      · cases hb.2 h
    (first | with_reducible (first | refine WP.iteT ?_ | refine WP.iteF ?_ | refine WP.iteNb ?_ | refine WP.iteD (fun _ => ?_) (fun _ => ?_) | refine WP.iteE (fun _ => ?_) (fun _ => ?_) | refine WP.iteN (fun _ => ?_) (fun _ => ?_) | refine WP.iteB (fun _ => ?_) (fun _ => ?_)) | (with_reducible refine WP.ckI ?_ ?_; · omega) | (with_reducible refine WP.gn ?_ (fun _ _ => ?_); · omega) | (with_reducible refine WP.gt ?_ (fun _ _ => ?_); · omega) | with_reducible (first | refine WP.up ?_ | refine WP.letO ?_ | refine WP.ret ?_))
    (repeat' (first | with_reducible (first | refine WP.iteT ?_ | refine WP.iteF ?_ | refine WP.iteNb ?_ | refine WP.iteD (fun _ => ?_) (fun _ => ?_) | refine WP.iteE (fun _ => ?_) (fun _ => ?_) | refine WP.iteN (fun _ => ?_) (fun _ => ?_) | refine WP.iteB (fun _ => ?_) (fun _ => ?_)) | (with_reducible refine WP.ckI ?_ ?_; · omega) | (with_reducible refine WP.gn ?_ (fun _ _ => ?_); · omega) | (with_reducible refine WP.gt ?_ (fun _ _ => ?_); · omega) | with_reducible (first | refine WP.up ?_ | refine WP.letO ?_ | refine WP.ret ?_)))
    all_goals refine r20_j8 hi hl ?_ (fun h3 h4 h5 => h1 ⟨hs, h3, h4, h5⟩) fun h3 => h2 fun h4 => h3 h4.2
    all_goals try simp only [decide_eq_true_eq, true_iff]
    all_goals omega
  · have := hb.1 rfl
    (repeat' (first | with_reducible (first | refine WP.iteT ?_ | refine WP.iteF ?_ | refine WP.iteNb ?_ | refine WP.iteD (fun _ => ?_) (fun _ => ?_) | refine WP.iteE (fun _ => ?_) (fun _ => ?_) | refine WP.iteN (fun _ => ?_) (fun _ => ?_) | refine WP.iteB (fun _ => ?_) (fun _ => ?_)) | (with_reducible refine WP.ckI ?_ ?_; · omega) | (with_reducible refine WP.gn ?_ (fun _ _ => ?_); · omega) | (with_reducible refine WP.gt ?_ (fun _ _ => ?_); · omega) | with_reducible (first | refine WP.up ?_ | refine WP.letO ?_ | refine WP.ret ?_)))
    exact h2 fun h => this h.1
theorem r20_round (hl : t.l.length ≤ 1000) (hx : t.l[i]? = some x) (he : 0 < i → t.l[i - 1]? = some e) (h1 : placeOK i e ((t.l.take i).map clubOf) x → K (.inl (i + 1)))
    (h2 : ¬ placeOK i e ((t.l.take i).map clubOf) x → K (.inr 1)) : WP (g_ref20_Check_l3 t i) K := by
  have hlt := (List.getElem?_eq_some_iff.1 hx).1
  have j7 : ∀ b, (b = true ↔ ¬ shapeOK i e x) → WP (g_ref20_Check_j7 x i t b) K := fun b hb => r20_j7 (by omega) hl hb h1 h2
  have bad : ¬ shapeOK i e x → K (.inr 1) := fun h => h2 fun h3 => h h3.1
  have j6t : ∀ y, ¬ shapeOK i e x → WP (g_ref20_Check_j6 y x i t true) K := fun y h => by
    unfold g_ref20_Check_j6
    (repeat' (first | with_reducible (first | refine WP.iteT ?_ | refine WP.iteF ?_ | refine WP.iteNb ?_ | refine WP.iteD (fun _ => ?_) (fun _ => ?_) | refine WP.iteE (fun _ => ?_) (fun _ => ?_) | refine WP.iteN (fun _ => ?_) (fun _ => ?_) | refine WP.iteB (fun _ => ?_) (fun _ => ?_)) | (with_reducible refine WP.ckI ?_ ?_; · omega) | (with_reducible refine WP.gn ?_ (fun _ _ => ?_); · omega) | (with_reducible refine WP.gt ?_ (fun _ _ => ?_); · omega) | with_reducible (first | refine WP.up ?_ | refine WP.letO ?_ | refine WP.ret ?_)))
    exact bad h
  have j6f : ∀ y, (y = true ↔ 0 < i ∧ x.k = e.k) → (y = true → e.r.c < x.r.c) → (y = false → x.k = (i : Int) + 1) → WP (g_ref20_Check_j6 y x i t false) K := fun y hy h3 h4 => by
    unfold g_ref20_Check_j6
    (first | with_reducible (first | refine WP.iteT ?_ | refine WP.iteF ?_ | refine WP.iteNb ?_ | refine WP.iteD (fun _ => ?_) (fun _ => ?_) | refine WP.iteE (fun _ => ?_) (fun _ => ?_) | refine WP.iteN (fun _ => ?_) (fun _ => ?_) | refine WP.iteB (fun _ => ?_) (fun _ => ?_)) | (with_reducible refine WP.ckI ?_ ?_; · omega) | (with_reducible refine WP.gn ?_ (fun _ _ => ?_); · omega) | (with_reducible refine WP.gt ?_ (fun _ _ => ?_); · omega) | with_reducible (first | refine WP.up ?_ | refine WP.letO ?_ | refine WP.ret ?_))
    cases y
    · have h5 := h4 rfl
      have h6 : ¬ (0 < i ∧ x.k = e.k) := fun h => by cases hy.2 h
      (repeat' (first | with_reducible (first | refine WP.iteT ?_ | refine WP.iteF ?_ | refine WP.iteNb ?_ | refine WP.iteD (fun _ => ?_) (fun _ => ?_) | refine WP.iteE (fun _ => ?_) (fun _ => ?_) | refine WP.iteN (fun _ => ?_) (fun _ => ?_) | refine WP.iteB (fun _ => ?_) (fun _ => ?_)) | (with_reducible refine WP.ckI ?_ ?_; · omega) | (with_reducible refine WP.gn ?_ (fun _ _ => ?_); · omega) | (with_reducible refine WP.gt ?_ (fun _ _ => ?_); · omega) | with_reducible (first | refine WP.up ?_ | refine WP.letO ?_ | refine WP.ret ?_)))
      all_goals refine j7 _ ?_
      all_goals unfold shapeOK
      all_goals try simp only [decide_eq_true_eq, true_iff, Bool.false_eq_true, false_iff]
      all_goals omega
    · have h5 := h3 rfl
      have h6 := hy.1 rfl
      (repeat' (first | with_reducible (first | refine WP.iteT ?_ | refine WP.iteF ?_ | refine WP.iteNb ?_ | refine WP.iteD (fun _ => ?_) (fun _ => ?_) | refine WP.iteE (fun _ => ?_) (fun _ => ?_) | refine WP.iteN (fun _ => ?_) (fun _ => ?_) | refine WP.iteB (fun _ => ?_) (fun _ => ?_)) | (with_reducible refine WP.ckI ?_ ?_; · omega) | (with_reducible refine WP.gn ?_ (fun _ _ => ?_); · omega) | (with_reducible refine WP.gt ?_ (fun _ _ => ?_); · omega) | with_reducible (first | refine WP.up ?_ | refine WP.letO ?_ | refine WP.ret ?_)))
      all_goals refine j7 _ ?_
      all_goals unfold shapeOK
      all_goals try simp only [decide_eq_true_eq, true_iff, Bool.false_eq_true, false_iff]
      all_goals omega
  have j5 : ∀ y, (y = true ↔ 0 < i ∧ x.k = e.k) → WP (g_ref20_Check_j5 i x t y) K := fun y hy => by
    unfold g_ref20_Check_j5
    cases y
    · have h6 : ¬ (0 < i ∧ x.k = e.k) := fun h => by cases hy.2 h
      (repeat' (first | with_reducible (first | refine WP.iteT ?_ | refine WP.iteF ?_ | refine WP.iteNb ?_ | refine WP.iteD (fun _ => ?_) (fun _ => ?_) | refine WP.iteE (fun _ => ?_) (fun _ => ?_) | refine WP.iteN (fun _ => ?_) (fun _ => ?_) | refine WP.iteB (fun _ => ?_) (fun _ => ?_)) | (with_reducible refine WP.ckI ?_ ?_; · omega) | (with_reducible refine WP.gn ?_ (fun _ _ => ?_); · omega) | (with_reducible refine WP.gt ?_ (fun _ _ => ?_); · omega) | with_reducible (first | refine WP.up ?_ | refine WP.letO ?_ | refine WP.ret ?_)))
      · refine j6t _ ?_
        unfold shapeOK; omega
      · refine j6f _ hy (fun h => by cases h) fun _ => ?_
        omega
    · have h6 := hy.1 rfl
      have h7 := he h6.1
      (first | with_reducible (first | refine WP.iteT ?_ | refine WP.iteF ?_ | refine WP.iteNb ?_ | refine WP.iteD (fun _ => ?_) (fun _ => ?_) | refine WP.iteE (fun _ => ?_) (fun _ => ?_) | refine WP.iteN (fun _ => ?_) (fun _ => ?_) | refine WP.iteB (fun _ => ?_) (fun _ => ?_)) | (with_reducible refine WP.ckI ?_ ?_; · omega) | (with_reducible refine WP.gn ?_ (fun _ _ => ?_); · omega) | (with_reducible refine WP.gt ?_ (fun _ _ => ?_); · omega) | with_reducible (first | refine WP.up ?_ | refine WP.letO ?_ | refine WP.ret ?_)); (first | with_reducible (first | refine WP.iteT ?_ | refine WP.iteF ?_ | refine WP.iteNb ?_ | refine WP.iteD (fun _ => ?_) (fun _ => ?_) | refine WP.iteE (fun _ => ?_) (fun _ => ?_) | refine WP.iteN (fun _ => ?_) (fun _ => ?_) | refine WP.iteB (fun _ => ?_) (fun _ => ?_)) | (with_reducible refine WP.ckI ?_ ?_; · omega) | (with_reducible refine WP.gn ?_ (fun _ _ => ?_); · omega) | (with_reducible refine WP.gt ?_ (fun _ _ => ?_); · omega) | with_reducible (first | refine WP.up ?_ | refine WP.letO ?_ | refine WP.ret ?_)); (first | with_reducible (first | refine WP.iteT ?_ | refine WP.iteF ?_ | refine WP.iteNb ?_ | refine WP.iteD (fun _ => ?_) (fun _ => ?_) | refine WP.iteE (fun _ => ?_) (fun _ => ?_) | refine WP.iteN (fun _ => ?_) (fun _ => ?_) | refine WP.iteB (fun _ => ?_) (fun _ => ?_)) | (with_reducible refine WP.ckI ?_ ?_; · omega) | (with_reducible refine WP.gn ?_ (fun _ _ => ?_); · omega) | (with_reducible refine WP.gt ?_ (fun _ _ => ?_); · omega) | with_reducible (first | refine WP.up ?_ | refine WP.letO ?_ | refine WP.ret ?_))
      rw [gt_some (x := e) (by rw [show (((i : Nat) : Int) - 1).toNat = i - 1 by omega]; exact h7) (by omega)]
      by_cases hc : x.r.c ≤ e.r.c
      · rw [decide_eq_true hc]
        refine j6t _ ?_
        unfold shapeOK; omega
      · rw [decide_eq_false hc]
        exact j6f _ hy (fun _ => by omega) fun h => by cases h
  simp only [g_ref20_Check_l3]
  refine WP.iteD (fun _ => ?_) (fun h => absurd h (by omega))
  rw [gn_some hx]
  refine WP.iteD (fun h => ?_) (fun h => ?_)
  · (first | with_reducible (first | refine WP.iteT ?_ | refine WP.iteF ?_ | refine WP.iteNb ?_ | refine WP.iteD (fun _ => ?_) (fun _ => ?_) | refine WP.iteE (fun _ => ?_) (fun _ => ?_) | refine WP.iteN (fun _ => ?_) (fun _ => ?_) | refine WP.iteB (fun _ => ?_) (fun _ => ?_)) | (with_reducible refine WP.ckI ?_ ?_; · omega) | (with_reducible refine WP.gn ?_ (fun _ _ => ?_); · omega) | (with_reducible refine WP.gt ?_ (fun _ _ => ?_); · omega) | with_reducible (first | refine WP.up ?_ | refine WP.letO ?_ | refine WP.ret ?_))
    rw [gt_some (x := e) (by rw [show (((i : Nat) : Int) - 1).toNat = i - 1 by omega]; exact he (by omega)) (by omega)]
    refine j5 _ ?_
    rw [beq_iff_eq]
    omega
  · refine j5 _ ?_
    simp only [Bool.false_eq_true, false_iff]
    omega
end
theorem r20_eq {t : Tab} (hl : t.l.length ≤ 1000) : g_ref20_Check t = some (chkT t) := by
  refine WP.eq ?_
  have j1 : ∀ b, (b = true ↔ ¬ headT t) → WP (g_ref20_Check_j1 t b) (fun x => x = chkT t) := fun b hb => by
    cases b
    · unfold g_ref20_Check_j1
      (first | with_reducible (first | refine WP.iteT ?_ | refine WP.iteF ?_ | refine WP.iteNb ?_ | refine WP.iteD (fun _ => ?_) (fun _ => ?_) | refine WP.iteE (fun _ => ?_) (fun _ => ?_) | refine WP.iteN (fun _ => ?_) (fun _ => ?_) | refine WP.iteB (fun _ => ?_) (fun _ => ?_)) | (with_reducible refine WP.ckI ?_ ?_; · omega) | (with_reducible refine WP.gn ?_ (fun _ _ => ?_); · omega) | (with_reducible refine WP.gt ?_ (fun _ _ => ?_); · omega) | with_reducible (first | refine WP.up ?_ | refine WP.letO ?_ | refine WP.ret ?_))
      have hh : headT t := by by_cases h : headT t; exact h; cases hb.2 h
      refine WP.loop (fun k => ∃ e, k ≤ t.l.length ∧ plOK k e ((t.l.take k).map clubOf) (t.l.drop k) = plOK 0 noPlace [] t.l ∧ (0 < k → t.l[k - 1]? = some e)) (fun k => t.l.length - k) ?_ ⟨noPlace, by simp, rfl, by simp⟩
      rintro k ⟨e, hk, iv, he⟩
      by_cases hlt : k < t.l.length
      · obtain ⟨x, hx⟩ : ∃ x, t.l[k]? = some x := ⟨_, List.getElem?_eq_getElem hlt⟩
        refine r20_round hl hx he (fun hp => ?_) (fun hp => ?_)
        · exact ⟨⟨x, hlt, plOK_step iv hx hp, fun _ => by simpa using hx⟩, by dsimp only; omega⟩
        · exact chkT_bad2 (plOK_stop iv hx hp)
      · simp only [g_ref20_Check_l3]
        refine WP.iteD (fun h => absurd h (by omega)) (fun h => ?_)
        unfold g_ref20_Check_j2
        (repeat' (first | with_reducible (first | refine WP.iteT ?_ | refine WP.iteF ?_ | refine WP.iteNb ?_ | refine WP.iteD (fun _ => ?_) (fun _ => ?_) | refine WP.iteE (fun _ => ?_) (fun _ => ?_) | refine WP.iteN (fun _ => ?_) (fun _ => ?_) | refine WP.iteB (fun _ => ?_) (fun _ => ?_)) | (with_reducible refine WP.ckI ?_ ?_; · omega) | (with_reducible refine WP.gn ?_ (fun _ _ => ?_); · omega) | (with_reducible refine WP.gt ?_ (fun _ _ => ?_); · omega) | with_reducible (first | refine WP.up ?_ | refine WP.letO ?_ | refine WP.ret ?_)))
        exact chkT_ok hh (plOK_end iv (by omega))
    · unfold g_ref20_Check_j1
      (repeat' (first | with_reducible (first | refine WP.iteT ?_ | refine WP.iteF ?_ | refine WP.iteNb ?_ | refine WP.iteD (fun _ => ?_) (fun _ => ?_) | refine WP.iteE (fun _ => ?_) (fun _ => ?_) | refine WP.iteN (fun _ => ?_) (fun _ => ?_) | refine WP.iteB (fun _ => ?_) (fun _ => ?_)) | (with_reducible refine WP.ckI ?_ ?_; · omega) | (with_reducible refine WP.gn ?_ (fun _ _ => ?_); · omega) | (with_reducible refine WP.gt ?_ (fun _ _ => ?_); · omega) | with_reducible (first | refine WP.up ?_ | refine WP.letO ?_ | refine WP.ret ?_)))
      exact chkT_bad (hb.1 rfl)
  unfold g_ref20_Check
  (repeat' (first | with_reducible (first | refine WP.iteT ?_ | refine WP.iteF ?_ | refine WP.iteNb ?_ | refine WP.iteD (fun _ => ?_) (fun _ => ?_) | refine WP.iteE (fun _ => ?_) (fun _ => ?_) | refine WP.iteN (fun _ => ?_) (fun _ => ?_) | refine WP.iteB (fun _ => ?_) (fun _ => ?_)) | (with_reducible refine WP.ckI ?_ ?_; · omega) | (with_reducible refine WP.gn ?_ (fun _ _ => ?_); · omega) | (with_reducible refine WP.gt ?_ (fun _ _ => ?_); · omega) | with_reducible (first | refine WP.up ?_ | refine WP.letO ?_ | refine WP.ret ?_)))
  all_goals refine j1 _ ?_
  all_goals unfold headT
  all_goals try simp only [decide_eq_true_eq, true_iff]
  all_goals omega
theorem fits_eq {t : Tab} {s : Sch} (hl : t.l.length ≤ 1000) (hs : s.p.length ≤ 1000) : g_prizes_fits t s = some (fitS t s) := by
  refine WP.eq ?_
  unfold g_prizes_fits fitS
  refine WP.bd (tcheck_eq hl) ?_
  (repeat' (first | with_reducible (first | refine WP.iteT ?_ | refine WP.iteF ?_ | refine WP.iteNb ?_ | refine WP.iteD (fun _ => ?_) (fun _ => ?_) | refine WP.iteE (fun _ => ?_) (fun _ => ?_) | refine WP.iteN (fun _ => ?_) (fun _ => ?_) | refine WP.iteB (fun _ => ?_) (fun _ => ?_)) | (with_reducible refine WP.ckI ?_ ?_; · omega) | (with_reducible refine WP.gn ?_ (fun _ _ => ?_); · omega) | (with_reducible refine WP.gt ?_ (fun _ _ => ?_); · omega) | with_reducible (first | refine WP.up ?_ | refine WP.letO ?_ | refine WP.ret ?_)))
  · rw [if_pos ‹_›]
  · rename_i h
    rw [if_neg (show ¬ chkT t ≠ 0 by omega)]
    refine WP.bd (pcheck_eq hs) ?_
    refine WP.iteN (fun h2 => ?_) (fun h2 => ?_)
    · rw [if_pos h2]; exact WP.ret rfl
    · rw [if_neg (show ¬ chkS s ≠ 0 by omega)]
      refine WP.iteN (fun h3 => ?_) (fun h3 => ?_)
      · rw [if_pos h3]; exact WP.ret rfl
      · rw [if_neg (show ¬ t.c ≠ s.c by omega)]; exact WP.ret rfl
theorem checked_eq {t : Tab} {s : Sch} (hl : t.l.length ≤ 1000) : g_ref42_checked t s = some (fitS t s) := by
  refine WP.eq ?_
  unfold g_ref42_checked fitS
  refine WP.bd (r20_eq hl) ?_
  have j3f : ∀ n, WP (g_ref42_checked_j3 n false) (fun x => x = n) := fun n => by
    unfold g_ref42_checked_j3 g_ref42_checked_j2; (repeat' (first | with_reducible (first | refine WP.iteT ?_ | refine WP.iteF ?_ | refine WP.iteNb ?_ | refine WP.iteD (fun _ => ?_) (fun _ => ?_) | refine WP.iteE (fun _ => ?_) (fun _ => ?_) | refine WP.iteN (fun _ => ?_) (fun _ => ?_) | refine WP.iteB (fun _ => ?_) (fun _ => ?_)) | (with_reducible refine WP.ckI ?_ ?_; · omega) | (with_reducible refine WP.gn ?_ (fun _ _ => ?_); · omega) | (with_reducible refine WP.gt ?_ (fun _ _ => ?_); · omega) | with_reducible (first | refine WP.up ?_ | refine WP.letO ?_ | refine WP.ret ?_))); rfl
  have j1 : ∀ n, WP (g_ref42_checked_j1 t s n) (fun x => x = if n ≠ 0 then n else if t.c ≠ s.c then 420 else 0) := fun n => by
    unfold g_ref42_checked_j1
    (repeat' (first | with_reducible (first | refine WP.iteT ?_ | refine WP.iteF ?_ | refine WP.iteNb ?_ | refine WP.iteD (fun _ => ?_) (fun _ => ?_) | refine WP.iteE (fun _ => ?_) (fun _ => ?_) | refine WP.iteN (fun _ => ?_) (fun _ => ?_) | refine WP.iteB (fun _ => ?_) (fun _ => ?_)) | (with_reducible refine WP.ckI ?_ ?_; · omega) | (with_reducible refine WP.gn ?_ (fun _ _ => ?_); · omega) | (with_reducible refine WP.gt ?_ (fun _ _ => ?_); · omega) | with_reducible (first | refine WP.up ?_ | refine WP.letO ?_ | refine WP.ret ?_)))
    · rename_i h
      rw [if_neg (by omega)]
      by_cases hc : t.c = s.c
      · rw [if_neg (by omega), hc, show (s.c != s.c) = false by simp, h]; exact j3f 0
      · rw [if_pos hc, show (t.c != s.c) = true by simpa using hc]
        unfold g_ref42_checked_j3 g_ref42_checked_j2; (repeat' (first | with_reducible (first | refine WP.iteT ?_ | refine WP.iteF ?_ | refine WP.iteNb ?_ | refine WP.iteD (fun _ => ?_) (fun _ => ?_) | refine WP.iteE (fun _ => ?_) (fun _ => ?_) | refine WP.iteN (fun _ => ?_) (fun _ => ?_) | refine WP.iteB (fun _ => ?_) (fun _ => ?_)) | (with_reducible refine WP.ckI ?_ ?_; · omega) | (with_reducible refine WP.gn ?_ (fun _ _ => ?_); · omega) | (with_reducible refine WP.gt ?_ (fun _ _ => ?_); · omega) | with_reducible (first | refine WP.up ?_ | refine WP.letO ?_ | refine WP.ret ?_))); rfl
    · rename_i h
      rw [if_pos h]; exact j3f n
  (repeat' (first | with_reducible (first | refine WP.iteT ?_ | refine WP.iteF ?_ | refine WP.iteNb ?_ | refine WP.iteD (fun _ => ?_) (fun _ => ?_) | refine WP.iteE (fun _ => ?_) (fun _ => ?_) | refine WP.iteN (fun _ => ?_) (fun _ => ?_) | refine WP.iteB (fun _ => ?_) (fun _ => ?_)) | (with_reducible refine WP.ckI ?_ ?_; · omega) | (with_reducible refine WP.gn ?_ (fun _ _ => ?_); · omega) | (with_reducible refine WP.gt ?_ (fun _ _ => ?_); · omega) | with_reducible (first | refine WP.up ?_ | refine WP.letO ?_ | refine WP.ret ?_)))
  · rename_i h
    refine WP.bd (rcheck_eq s) ?_
    rw [if_neg (by omega)]
    exact j1 _
  · rename_i h
    rw [if_pos h]
    refine (j1 _).mono fun x hx => ?_
    rw [hx, if_pos h]
end Go.Proofs.YtoiiblkncbnlaaaGreat

/-
  Chapter 42: the reference's prizes, plainly. Conditions: those of each theorem.
-/
set_option linter.unusedVariables false
set_option linter.unusedSimpArgs false
namespace Go.Proofs.YtoiiblkncbnlaaaGreat
open Go.DL
theorem part_here {ps : List Prize} {r y : Int} {k : Nat} {x : Prize} (iv : part (ps.drop k) r = part ps r) (hx : ps[k]? = some x) (h1 : x.f ≤ r ∧ r ≤ x.t) (hy : (eqL x.a (x.t - x.f + 1).toNat)[(r - x.f).toNat]? = some y) : y = part ps r := by
  rw [← iv, drop_cons hx, part, if_pos h1, List.getD, hy]; rfl
theorem part_skip {ps : List Prize} {r : Int} {k : Nat} {x : Prize} (iv : part (ps.drop k) r = part ps r) (hx : ps[k]? = some x) (h1 : ¬ (x.f ≤ r ∧ r ≤ x.t)) : part (ps.drop (k + 1)) r = part ps r := by
  rw [← iv, drop_cons hx, part, if_neg h1]
theorem part_bounds42 {ps : List Prize} {last : Int} (h : prOK last ps = true) (r : Int) : 0 ≤ part ps r ∧ part ps r ≤ 1125899906842624 := by
  induction ps generalizing last with
  | nil => simp [part]
  | cons q l ih =>
    have hm := prOK_mem h q (by simp)
    rw [prOK] at h
    split at h
    · cases h
    · rw [part]; split
      · rename_i hr
        have hlt : (r - q.f).toNat < (q.t - q.f + 1).toNat := by omega
        have hb := eqL_bounds (a := q.a) (n := (q.t - q.f + 1).toNat) (by omega) (List.mem_of_getElem? (eqL_get (by omega) hlt))
        rw [List.getD, eqL_get (by omega) hlt]
        simp only [Option.getD_some]
        omega
      · exact ih h
theorem partL_get (ps : List Prize) {i : Nat} (h : i < 24) : (partL ps)[i]? = some (part ps ((i + 1 : Nat) : Int)) := by
  simp only [partL, List.getElem?_map, List.getElem?_range h, Option.map_some]; rfl
theorem sumL_snoc (l : List Int) (x : Int) : sumL 0 (l ++ [x]) = sumL 0 l + x := by
  have : ∀ n : Int, sumL n (l ++ [x]) = sumL n l + x := by
    induction l with
    | nil => intro n; rfl
    | cons y l ih => intro n; simp only [List.cons_append, sumL]; exact ih _
  exact this 0
theorem part_sum {ps : List Prize} {i m : Nat} {n : Int} (h : n = sumL 0 (((partL ps).drop i).take m)) (hm : i + m < 24) : n + part ps ((i + m + 1 : Nat) : Int) = sumL 0 (((partL ps).drop i).take (m + 1)) := by
  have hx : ((partL ps).drop i)[m]? = some (part ps ((i + m + 1 : Nat) : Int)) := by rw [List.getElem?_drop, partL_get ps hm]
  rw [take_snoc hx, sumL_snoc, h]
theorem run_step {l : List Place} {i m : Nat} {x y : Place} (ir : runLen x.k (l.drop i) = m + runLen x.k (l.drop (i + m))) (hy : l[i + m]? = some y) (he : y.k = x.k) : runLen x.k (l.drop i) = (m + 1) + runLen x.k (l.drop (i + (m + 1))) := by
  rw [ir, drop_cons hy, runLen, if_pos he.symm, show i + m + 1 = i + (m + 1) by omega]; omega
theorem run_endA {l : List Place} {i m : Nat} {x : Place} (ir : runLen x.k (l.drop i) = m + runLen x.k (l.drop (i + m))) (hi : i < l.length) (hm : l.length ≤ i + m) : m = runLen x.k (l.drop i) ∧ 1 ≤ m := by
  rw [List.drop_eq_nil_of_le hm] at ir
  simp only [runLen] at ir
  omega
theorem run_endB {l : List Place} {i m : Nat} {x y : Place} (ir : runLen x.k (l.drop i) = m + runLen x.k (l.drop (i + m))) (hx : l[i]? = some x) (hy : l[i + m]? = some y) (hne : ¬ (y.k = x.k)) : m = runLen x.k (l.drop i) ∧ 1 ≤ m := by
  have h1 := ir
  rw [drop_cons hy, runLen, if_neg (fun e => hne e.symm)] at h1
  refine ⟨by omega, ?_⟩
  rcases Nat.eq_zero_or_pos m with h0 | h0
  · subst h0; rw [Nat.add_zero, hx] at hy; cases hy; exact absurd rfl hne
  · exact h0
theorem pay_next {l : List Place} {ps : List Prize} {i m : Nat} {x : Place} (hx : l[i]? = some x) (hm : m = runLen x.k (l.drop i)) (hle : i + m ≤ l.length) :
    payG ((partL ps).drop i) (grp (l.drop i)) = share ((l.drop i).take m) (eqL (sumL 0 (((partL ps).drop i).take m)) m) ++ payG ((partL ps).drop (i + m)) (grp (l.drop (i + m))) := by
  have h0 : (l.drop i)[0]? = some x := by rw [List.getElem?_drop]; simpa using hx
  have hlen : ((l.drop i).take m).length = m := by simp; omega
  rw [grp_cons h0, ← hm, payG, hlen, List.drop_drop, List.drop_drop]
theorem share_yes {ps : List Place} {ns : List Int} {j : Nat} {y : Place} {n : Int} (hp : ps[j]? = some y) (hn : ns[j]? = some n) (h : n > 0) : share (ps.drop j) (ns.drop j) = ⟨y.r.c, n⟩ :: share (ps.drop (j + 1)) (ns.drop (j + 1)) := by
  rw [drop_cons hp, drop_cons hn, share, if_pos h]
theorem share_no {ps : List Place} {ns : List Int} {j : Nat} {y : Place} {n : Int} (hp : ps[j]? = some y) (hn : ns[j]? = some n) (h : ¬ n > 0) : share (ps.drop j) (ns.drop j) = share (ps.drop (j + 1)) (ns.drop (j + 1)) := by
  rw [drop_cons hp, drop_cons hn, share, if_neg h]
theorem insP_length (p : Pay) (l : List Pay) : (insP p l).length = l.length + 1 := by
  induction l with
  | nil => rfl
  | cons q l ih => rw [insP]; split <;> simp [ih]
abbrev insF (o : List Pay) (l : List Pay) : List Pay := l.foldl (fun o p => insP p o) o
theorem in_group {l : List Place} {i m j : Nat} {y : Place} (hy : l[i + j]? = some y) (hj : j < m) : ((l.drop i).take m)[j]? = some y := by
  rw [List.getElem?_take_of_lt hj, List.getElem?_drop]; exact hy
end Go.Proofs.YtoiiblkncbnlaaaGreat
namespace Go.Proofs.YtoiiblkncbnlaaaGreat
open Go.DL
theorem fit_prizes {t : Tab} {s : Sch} (h : fitS t s = 0) : prOK 0 s.p = true ∧ sumA s.p ≤ 1125899906842624 ∧ s.p.length ≤ 24 := by
  obtain ⟨_, h2, _⟩ := fitS_ok h
  rcases chkS_cases s with h4 | ⟨_, h4, _, h5, h6⟩
  · omega
  · unfold headS at h4; exact ⟨h5, h6, by omega⟩
end Go.Proofs.YtoiiblkncbnlaaaGreat

/-
  Chapter 42: all parts together are the amounts. Conditions: those of each theorem.
-/
set_option linter.unusedVariables false
set_option linter.unusedSimpArgs false
namespace Go.Proofs.YtoiiblkncbnlaaaGreat
open Go.DL
theorem sumL_append (l m : List Int) : sumL 0 (l ++ m) = sumL 0 l + sumL 0 m := by
  have : ∀ n : Int, sumL n (l ++ m) = sumL n l + sumL 0 m := by
    induction l with
    | nil => intro n; have := sumL_add m 0 n; simp only [List.nil_append, sumL]; rw [← Int.zero_add n, this]; omega
    | cons y l ih => intro n; simp only [List.cons_append, sumL]; exact ih _
  exact this 0
theorem sumL_rep0 (n : Nat) : sumL 0 (List.replicate n 0) = 0 := by
  induction n with
  | zero => rfl
  | succ n ih => rw [List.replicate_succ']; rw [sumL_append, ih]; rfl
theorem eqL_list {a : Int} (ha : 0 ≤ a) (n : Nat) : eqL a n = (List.range n).map fun j : Nat => a / n + if (j : Int) < a % n then 1 else 0 := by
  apply List.ext_getElem?
  intro j
  by_cases hj : j < n
  · rw [eqL_get ha hj, List.getElem?_map, List.getElem?_range hj]; rfl
  · rw [List.getElem?_eq_none (by rw [eqL_length]; omega), List.getElem?_eq_none (by simp; omega)]
theorem sum_range_ind (c r : Int) (h0 : 0 ≤ r) : ∀ n : Nat, sumL 0 ((List.range n).map fun j : Nat => c + if (j : Int) < r then 1 else 0) = c * n + (if (n : Int) ≤ r then (n : Int) else r)
  | 0 => by simp [sumL]; omega
  | n + 1 => by
    rw [List.range_succ, List.map_append, sumL_append, sum_range_ind c r h0 n]
    simp only [List.map_cons, List.map_nil, sumL, Int.natCast_add, Int.natCast_one, Int.mul_add, Int.mul_one]
    split <;> split <;> split <;> omega
theorem eqL_sum {a : Int} {n : Nat} (ha : 0 ≤ a) (hn : 1 ≤ n) : sumL 0 (eqL a n) = a := by
  have h1 := Int.emod_nonneg a (show (n : Int) ≠ 0 by omega)
  have h2 := Int.emod_lt_of_pos a (show (0 : Int) < n by omega)
  have h3 := Int.mul_ediv_add_emod a n
  rw [eqL_list ha, sum_range_ind _ _ h1, if_neg (by omega), Int.mul_comm]
  omega
/-- What one prize gives to the ranks. -/
def onePart (q : Prize) (i : Nat) : Int := if q.f ≤ ((i + 1 : Nat) : Int) ∧ ((i + 1 : Nat) : Int) ≤ q.t then (eqL q.a (q.t - q.f + 1).toNat).getD (((i + 1 : Nat) : Int) - q.f).toNat 0 else 0
theorem onePart_list {q : Prize} (h1 : 1 ≤ q.f) (h2 : q.f ≤ q.t) (h3 : q.t ≤ 24) : (List.range 24).map (onePart q) = List.replicate (q.f.toNat - 1) 0 ++ eqL q.a (q.t - q.f + 1).toNat ++ List.replicate (24 - q.t.toNat) 0 := by
  have hlen := eqL_length q.a (q.t - q.f + 1).toNat
  apply List.ext_getElem?
  intro j
  by_cases hj : j < 24
  · rw [List.getElem?_map, List.getElem?_range hj, Option.map_some, onePart]
    by_cases ha : (j : Int) + 1 < q.f
    · rw [if_neg (by omega), List.append_assoc, List.getElem?_append_left (by simp; omega), List.getElem?_replicate, if_pos (by omega)]
    · by_cases hb : (j : Int) + 1 ≤ q.t
      · rw [if_pos (by omega), List.append_assoc, List.getElem?_append_right (by simp; omega), List.getElem?_append_left (by simp; omega), List.length_replicate, List.getD]
        have e : (((j + 1 : Nat) : Int) - q.f).toNat = j - (q.f.toNat - 1) := by omega
        rw [e, List.getElem?_eq_getElem (by omega)]; rfl
      · rw [if_neg (by omega), List.getElem?_append_right (by simp; omega), List.getElem?_replicate, if_pos (by simp; omega)]
  · rw [List.getElem?_eq_none (by simp; omega), List.getElem?_eq_none (by simp; omega)]
theorem map_add (l : List Nat) (f g : Nat → Int) : sumL 0 (l.map fun i => f i + g i) = sumL 0 (l.map f) + sumL 0 (l.map g) := by
  induction l with
  | nil => rfl
  | cons x l ih =>
    have e : ∀ (y : Int) (l : List Int), sumL 0 (y :: l) = sumL 0 l + y := fun y l => by simp only [sumL]; exact sumL_add l 0 y
    simp only [List.map_cons, e, ih]; omega
theorem partL_sum {ps : List Prize} : ∀ {last : Int}, 0 ≤ last → prOK last ps = true → sumL 0 (partL ps) = sumA ps := by
  induction ps with
  | nil =>
    intro last _ _
    have : partL [] = List.replicate 24 0 := by decide
    rw [this, sumL_rep0]; rfl
  | cons q l ih =>
    intro last h0 h
    have hm := prOK_mem h q (by simp)
    rw [prOK] at h
    split at h
    · cases h
    · have e1 : partL (q :: l) = (List.range 24).map fun i : Nat => onePart q i + part l ((i + 1 : Nat) : Int) := by
        unfold partL
        refine List.map_congr_left fun i _ => ?_
        show part (q :: l) ((i : Int) + 1) = _
        rw [part, onePart]
        have hc : ((i + 1 : Nat) : Int) = (i : Int) + 1 := by omega
        rw [hc]
        split
        · rename_i hr
          rw [part_low h hr.2]; omega
        · omega
      have e2 : sumA (q :: l) = sumA l + q.a := by unfold sumA; simp only [List.map_cons, sumL]; exact sumL_add _ 0 q.a
      rw [e1, map_add, onePart_list (by omega) (by omega) (by omega), sumL_append, sumL_append, sumL_rep0, sumL_rep0, eqL_sum (by omega) (by omega), e2, ← ih (by omega) h]
      unfold partL
      have : (fun i : Nat => part l ((i + 1 : Nat) : Int)) = fun i : Nat => part l ((i : Int) + 1) := by funext i; congr 1
      rw [this]; omega
theorem sumL_take_le {l : List Int} (h : ∀ x ∈ l, 0 ≤ x) (m : Nat) : sumL 0 (l.take m) ≤ sumL 0 l ∧ 0 ≤ sumL 0 (l.drop m) := by
  have e := sumL_append (l.take m) (l.drop m)
  rw [List.take_append_drop] at e
  have h1 := sumL_nonneg (l := l.drop m) fun x hx => h x (List.mem_of_mem_drop hx)
  omega
theorem partL_nonneg {ps : List Prize} {last : Int} (h : prOK last ps = true) : ∀ x ∈ partL ps, 0 ≤ x := by
  intro x hx
  obtain ⟨i, _, rfl⟩ := List.mem_map.1 hx
  exact (part_bounds42 h _).1
theorem part_total {ps : List Prize} (h : prOK 0 ps = true) (hs : sumA ps ≤ 1125899906842624) (i m : Nat) : sumL 0 (((partL ps).drop i).take m) ≤ 1125899906842624 := by
  have hn := partL_nonneg h
  have h1 := (sumL_take_le (l := (partL ps).drop i) (fun x hx => hn x (List.mem_of_mem_drop hx)) m).1
  have h2 := sumL_append ((partL ps).take i) ((partL ps).drop i)
  rw [List.take_append_drop] at h2
  have h3 := sumL_nonneg (l := (partL ps).take i) fun x hx => hn x (List.mem_of_mem_take hx)
  have h4 := partL_sum (Int.le_refl 0) h
  omega
end Go.Proofs.YtoiiblkncbnlaaaGreat
namespace Go.Proofs.YtoiiblkncbnlaaaGreat
theorem insF_append (o a b : List Pay) : insF o (a ++ b) = insF (insF o a) b := List.foldl_append
end Go.Proofs.YtoiiblkncbnlaaaGreat
namespace Go.Proofs.YtoiiblkncbnlaaaGreat
theorem share_end {ps : List Place} {ns : List Int} {j : Nat} (h : ps.length ≤ j) : share (ps.drop j) (ns.drop j) = [] := by rw [List.drop_eq_nil_of_le h]; rfl
end Go.Proofs.YtoiiblkncbnlaaaGreat
namespace Go.Proofs.YtoiiblkncbnlaaaGreat
theorem pay_end {l : List Place} {r : List Int} {i : Nat} (h : l.length ≤ i) : payG r (grp (l.drop i)) = [] := by rw [List.drop_eq_nil_of_le h]; rfl
end Go.Proofs.YtoiiblkncbnlaaaGreat

/-
  Chapter 42: the league of a competition. Conditions: those of each theorem.
-/
set_option linter.unusedVariables false
set_option linter.unusedSimpArgs false
namespace Go.Proofs.YtoiiblkncbnlaaaGreat
open Go.DL
def tab0 : Tab := ⟨0, 0, []⟩
def sch0 : Sch := ⟨0, [], 0, 0, 0, 0⟩
def ofB (ts : List Tab) (ss : List Sch) (c : Int) : Bool := decide (0 ≤ idxT c ts 0 ∧ 0 ≤ idxS c ss 0)
def ofT (ts : List Tab) (ss : List Sch) (c : Int) : Tab := if ofB ts ss c then ts.getD (idxT c ts 0).toNat tab0 else tab0
def ofS (ts : List Tab) (ss : List Sch) (c : Int) : Sch := if ofB ts ss c then ss.getD (idxS c ss 0).toNat sch0 else sch0
theorem ofB_no {ts : List Tab} {ss : List Sch} {c : Int} (h : idxT c ts 0 < 0 ∨ idxS c ss 0 < 0) : ofB ts ss c = false := decide_eq_false (by omega)
theorem ofB_yes {ts : List Tab} {ss : List Sch} {c : Int} (h : 0 ≤ idxT c ts 0) (h2 : 0 ≤ idxS c ss 0) : ofB ts ss c = true := decide_eq_true ⟨h, h2⟩
theorem ofT_no {ts : List Tab} {ss : List Sch} {c : Int} (h : ofB ts ss c = false) : ofT ts ss c = tab0 := by rw [ofT, h]; rfl
theorem ofS_no {ts : List Tab} {ss : List Sch} {c : Int} (h : ofB ts ss c = false) : ofS ts ss c = sch0 := by rw [ofS, h]; rfl
theorem ofT_yes {ts : List Tab} {ss : List Sch} {c : Int} (h : ofB ts ss c = true) {x : Tab} (hx : ts[(idxT c ts 0).toNat]? = some x) : ofT ts ss c = x := by rw [ofT, if_pos h, List.getD, hx]; rfl
theorem ofS_yes {ts : List Tab} {ss : List Sch} {c : Int} (h : ofB ts ss c = true) {x : Sch} (hx : ss[(idxS c ss 0).toNat]? = some x) : ofS ts ss c = x := by rw [ofS, if_pos h, List.getD, hx]; rfl
theorem idxT_range (c : Int) : ∀ (l : List Tab) (k : Nat), (idxT c l k = -1) ∨ ((k : Int) ≤ idxT c l k ∧ idxT c l k < (k + l.length : Nat))
  | [], k => .inl rfl
  | x :: l, k => by
    rw [idxT]; split
    · exact .inr ⟨Int.le_refl _, by simp only [List.length_cons]; omega⟩
    · rcases idxT_range c l (k + 1) with h1 | ⟨h1, h2⟩
      · exact .inl h1
      · exact .inr ⟨by omega, by simp only [List.length_cons]; omega⟩
theorem idxS_range (c : Int) : ∀ (l : List Sch) (k : Nat), (idxS c l k = -1) ∨ ((k : Int) ≤ idxS c l k ∧ idxS c l k < (k + l.length : Nat))
  | [], k => .inl rfl
  | x :: l, k => by
    rw [idxS]; split
    · exact .inr ⟨Int.le_refl _, by simp only [List.length_cons]; omega⟩
    · rcases idxS_range c l (k + 1) with h1 | ⟨h1, h2⟩
      · exact .inl h1
      · exact .inr ⟨by omega, by simp only [List.length_cons]; omega⟩
theorem idxT_here {c : Int} {l : List Tab} {i : Nat} {x : Tab} (hx : l[i]? = some x) (h : x.c = c) : idxT c (l.drop i) i = i := by rw [drop_cons hx, idxT, if_pos h]
theorem idxS_here {c : Int} {l : List Sch} {i : Nat} {x : Sch} (hx : l[i]? = some x) (h : x.c = c) : idxS c (l.drop i) i = i := by rw [drop_cons hx, idxS, if_pos h]
theorem idxT_skip {c : Int} {l : List Tab} {i : Nat} {x : Tab} (hx : l[i]? = some x) (h : ¬ x.c = c) : idxT c (l.drop i) i = idxT c (l.drop (i + 1)) (i + 1) := by rw [drop_cons hx, idxT, if_neg h]
theorem idxS_skip {c : Int} {l : List Sch} {i : Nat} {x : Sch} (hx : l[i]? = some x) (h : ¬ x.c = c) : idxS c (l.drop i) i = idxS c (l.drop (i + 1)) (i + 1) := by rw [drop_cons hx, idxS, if_neg h]
theorem idxS_end {c : Int} {l : List Sch} {i : Nat} (h : l.length ≤ i) : idxS c (l.drop i) i = -1 := by rw [List.drop_eq_nil_of_le h]; rfl
theorem idxT_end {c : Int} {l : List Tab} {i : Nat} (h : l.length ≤ i) : idxT c (l.drop i) i = -1 := by rw [List.drop_eq_nil_of_le h]; rfl
end Go.Proofs.YtoiiblkncbnlaaaGreat

/-
  Chapter 42: the clubs of the next season, plainly. Conditions: those of each theorem.
-/
set_option linter.unusedVariables false
set_option linter.unusedSimpArgs false
namespace Go.Proofs.YtoiiblkncbnlaaaGreat
open Go.DL
/-- The error of a neighbouring league. -/
def sideE (ts : List Tab) (ss : List Sch) (t : Tab) (n c b : Int) : Int :=
  if n = -1 then 0 else if ofB ts ss n = false ∨ (ofT ts ss n).s ≠ t.s ∨ b ≠ c then 420 else movE (ofT ts ss n) (ofS ts ss n)
def aboveE (ts : List Tab) (ss : List Sch) (c : Int) : Int := sideE ts ss (ofT ts ss c) (ofS ts ss c).ab c (ofS ts ss (ofS ts ss c).ab).be
def belowE (ts : List Tab) (ss : List Sch) (c : Int) : Int := sideE ts ss (ofT ts ss c) (ofS ts ss c).be c (ofS ts ss (ofS ts ss c).be).ab
def aboveL (ts : List Tab) (ss : List Sch) (n : Int) : List Int := if n = -1 then [] else downM (ofT ts ss n) (ofS ts ss n)
def belowL (ts : List Tab) (ss : List Sch) (n : Int) : List Int := if n = -1 then [] else upM (ofT ts ss n) (ofS ts ss n)
def stays (t : Tab) (s : Sch) (x : Int) : Bool := !(upM t s).contains x && !(downM t s).contains x
def restL (t : Tab) (s : Sch) : List Int := (t.l.map clubOf).filter (stays t s)
def comeL (ts : List Tab) (ss : List Sch) (c : Int) : List Int := aboveL ts ss (ofS ts ss c).ab ++ belowL ts ss (ofS ts ss c).be ++ restL (ofT ts ss c) (ofS ts ss c)
def preE (ts : List Tab) (ss : List Sch) (c : Int) : Int :=
  if ofB ts ss c = false then 420 else if movE (ofT ts ss c) (ofS ts ss c) ≠ 0 then movE (ofT ts ss c) (ofS ts ss c) else if aboveE ts ss c ≠ 0 then aboveE ts ss c else belowE ts ss c
def nextE (ts : List Tab) (ss : List Sch) (c : Int) : Int :=
  if preE ts ss c ≠ 0 then preE ts ss c else if (comeL ts ss c).Nodup ∧ 2 ≤ (comeL ts ss c).length ∧ (comeL ts ss c).length ≤ 24 then 0 else 190
def nextL (ts : List Tab) (ss : List Sch) (c : Int) : List Int := if nextE ts ss c ≠ 0 then [] else srtI (comeL ts ss c)
theorem upM_length (t : Tab) (s : Sch) : (upM t s).length ≤ t.l.length := by
  unfold upM; split
  · simp
  · rw [clubsL, srtI_length, List.length_map, List.length_take]; omega
theorem downM_length (t : Tab) (s : Sch) : (downM t s).length ≤ t.l.length := by
  unfold downM; split
  · simp
  · rw [clubsL, srtI_length, List.length_map, List.length_drop]; omega
end Go.Proofs.YtoiiblkncbnlaaaGreat
namespace Go.Proofs.YtoiiblkncbnlaaaGreat
open Go.DL
section
variable {ts : List Tab} {ss : List Sch} {c n b : Int} {t : Tab}
theorem sideE_skip (h : n = -1) : sideE ts ss t n c b = 0 := by rw [sideE, if_pos h]
theorem sideE_420 (h : n ≠ -1) (h2 : ofB ts ss n = false ∨ (ofT ts ss n).s ≠ t.s ∨ b ≠ c) : sideE ts ss t n c b = 420 := by rw [sideE, if_neg h, if_pos h2]
theorem sideE_ok (h : n ≠ -1) (h1 : ofB ts ss n = true) (h2 : (ofT ts ss n).s = t.s) (h3 : b = c) : sideE ts ss t n c b = movE (ofT ts ss n) (ofS ts ss n) := by
  rw [sideE, if_neg h, if_neg]
  rintro (h4 | h4 | h4)
  · rw [h1] at h4; cases h4
  · exact h4 h2
  · exact h4 h3
theorem preE_1 (h : ofB ts ss c = false) : preE ts ss c = 420 := by rw [preE, if_pos h]
theorem preE_2 (h : ofB ts ss c = true) (h2 : movE (ofT ts ss c) (ofS ts ss c) ≠ 0) : preE ts ss c = movE (ofT ts ss c) (ofS ts ss c) := by rw [preE, if_neg (by rw [h]; simp), if_pos h2]
theorem preE_3 (h : ofB ts ss c = true) (h2 : movE (ofT ts ss c) (ofS ts ss c) = 0) (h3 : aboveE ts ss c ≠ 0) : preE ts ss c = aboveE ts ss c := by rw [preE, if_neg (by rw [h]; simp), if_neg (by omega), if_pos h3]
theorem preE_4 (h : ofB ts ss c = true) (h2 : movE (ofT ts ss c) (ofS ts ss c) = 0) (h3 : aboveE ts ss c = 0) : preE ts ss c = belowE ts ss c := by rw [preE, if_neg (by rw [h]; simp), if_neg (by omega), if_neg (by omega)]
theorem nextE_pre {e : Int} (h : preE ts ss c = e) (h0 : e ≠ 0) : nextE ts ss c = e := by rw [nextE, if_pos (by omega), h]
theorem nextE_190 (h : preE ts ss c = 0) (h2 : ¬ ((comeL ts ss c).Nodup ∧ 2 ≤ (comeL ts ss c).length ∧ (comeL ts ss c).length ≤ 24)) : nextE ts ss c = 190 := by rw [nextE, if_neg (by omega), if_neg h2]
theorem nextE_0 (h : preE ts ss c = 0) (h2 : (comeL ts ss c).Nodup ∧ 2 ≤ (comeL ts ss c).length ∧ (comeL ts ss c).length ≤ 24) : nextE ts ss c = 0 := by rw [nextE, if_neg (by omega), if_pos h2]
theorem nextL_nil {e : Int} (h : nextE ts ss c = e) (h0 : e ≠ 0) : nextL ts ss c = [] := by rw [nextL, if_pos (by omega)]
theorem nextL_ok (h : nextE ts ss c = 0) : nextL ts ss c = srtI (comeL ts ss c) := by rw [nextL, if_neg (by omega)]
end
end Go.Proofs.YtoiiblkncbnlaaaGreat
namespace Go.Proofs.YtoiiblkncbnlaaaGreat
open Go.DL
section
variable {ts : List Tab} {ss : List Sch} {c : Int}
theorem err_1 (h : ofB ts ss c = false) : nextE ts ss c = 420 := nextE_pre (preE_1 h) (by omega)
theorem err_2 (h : ofB ts ss c = true) (h2 : movE (ofT ts ss c) (ofS ts ss c) ≠ 0) : nextE ts ss c = movE (ofT ts ss c) (ofS ts ss c) := nextE_pre (preE_2 h h2) h2
theorem err_3 (h : ofB ts ss c = true) (h2 : movE (ofT ts ss c) (ofS ts ss c) = 0) (hn : (ofS ts ss c).ab ≠ -1)
    (hd : ofB ts ss (ofS ts ss c).ab = false ∨ (ofT ts ss (ofS ts ss c).ab).s ≠ (ofT ts ss c).s ∨ (ofS ts ss (ofS ts ss c).ab).be ≠ c) : nextE ts ss c = 420 := by
  have e : aboveE ts ss c = 420 := sideE_420 hn hd
  exact nextE_pre ((preE_3 h h2 (by omega)).trans e) (by omega)
theorem err_4 (h : ofB ts ss c = true) (h2 : movE (ofT ts ss c) (ofS ts ss c) = 0) (hn : (ofS ts ss c).ab ≠ -1) (h3 : ofB ts ss (ofS ts ss c).ab = true) (h4 : (ofT ts ss (ofS ts ss c).ab).s = (ofT ts ss c).s) (h5 : (ofS ts ss (ofS ts ss c).ab).be = c)
    (hm : movE (ofT ts ss (ofS ts ss c).ab) (ofS ts ss (ofS ts ss c).ab) ≠ 0) : nextE ts ss c = movE (ofT ts ss (ofS ts ss c).ab) (ofS ts ss (ofS ts ss c).ab) := by
  have e : aboveE ts ss c = _ := sideE_ok hn h3 h4 h5
  exact nextE_pre ((preE_3 h h2 (by omega)).trans e) hm
theorem err_5 (h : ofB ts ss c = true) (h2 : movE (ofT ts ss c) (ofS ts ss c) = 0) (ha : aboveE ts ss c = 0) (hn : (ofS ts ss c).be ≠ -1)
    (hd : ofB ts ss (ofS ts ss c).be = false ∨ (ofT ts ss (ofS ts ss c).be).s ≠ (ofT ts ss c).s ∨ (ofS ts ss (ofS ts ss c).be).ab ≠ c) : nextE ts ss c = 420 := by
  have e : belowE ts ss c = 420 := sideE_420 hn hd
  exact nextE_pre ((preE_4 h h2 ha).trans e) (by omega)
theorem err_6 (h : ofB ts ss c = true) (h2 : movE (ofT ts ss c) (ofS ts ss c) = 0) (ha : aboveE ts ss c = 0) (hn : (ofS ts ss c).be ≠ -1) (h3 : ofB ts ss (ofS ts ss c).be = true) (h4 : (ofT ts ss (ofS ts ss c).be).s = (ofT ts ss c).s) (h5 : (ofS ts ss (ofS ts ss c).be).ab = c)
    (hm : movE (ofT ts ss (ofS ts ss c).be) (ofS ts ss (ofS ts ss c).be) ≠ 0) : nextE ts ss c = movE (ofT ts ss (ofS ts ss c).be) (ofS ts ss (ofS ts ss c).be) := by
  have e : belowE ts ss c = _ := sideE_ok hn h3 h4 h5
  exact nextE_pre ((preE_4 h h2 ha).trans e) hm
theorem ofT_len (h : ∀ t ∈ ts, t.l.length ≤ 30) (n : Int) : (ofT ts ss n).l.length ≤ 30 := by
  unfold ofT; split
  · rw [List.getD]
    cases hg : ts[(idxT n ts 0).toNat]? with
    | none => simp [tab0]
    | some x => exact h x (List.mem_of_getElem? hg)
  · simp [tab0]
theorem ofS_len (h : ∀ s ∈ ss, s.p.length ≤ 30) (n : Int) : (ofS ts ss n).p.length ≤ 30 := by
  unfold ofS; split
  · rw [List.getD]
    cases hg : ss[(idxS n ss 0).toNat]? with
    | none => simp [sch0]
    | some x => exact h x (List.mem_of_getElem? hg)
  · simp [sch0]
end
end Go.Proofs.YtoiiblkncbnlaaaGreat

/-
  Chapter 42: small enough. Conditions: those of each theorem.
-/
set_option linter.unusedVariables false
set_option linter.unusedSimpArgs false
namespace Go.Proofs.YtoiiblkncbnlaaaGreat
open Go.DL
def Few (ts : List Tab) (ss : List Sch) : Prop := ts.length ≤ 5 ∧ ss.length ≤ 5 ∧ (∀ t ∈ ts, t.l.length ≤ 30) ∧ (∀ s ∈ ss, s.p.length ≤ 30)
instance (ts : List Tab) (ss : List Sch) : Decidable (Few ts ss) := by unfold Few; infer_instance
theorem all_snoc {α : Type} {l : List α} {p : α → Prop} {k : Nat} {x : α} (h : ∀ y ∈ l.take k, p y) (hx : l[k]? = some x) (hp : p x) : ∀ y ∈ l.take (k + 1), p y := by
  rw [take_snoc hx]
  intro y hy
  rcases List.mem_append.1 hy with hy | hy
  · exact h y hy
  · simp at hy; subst hy; exact hp
end Go.Proofs.YtoiiblkncbnlaaaGreat

/-
  Chapter 42: tables of tied clubs. Conditions: those of each theorem.
-/
set_option linter.unusedVariables false
set_option linter.unusedSimpArgs false
namespace Go.Proofs.YtoiiblkncbnlaaaGreat
open Go.DL
def tied (x : Int) : Place := ⟨1, 0, [], ⟨x, 0, 0, 0, 0, 0, 0, 0, 0, 0, 0⟩⟩
def levelT (c : Int) (cs : List Int) : Tab := ⟨0, c, cs.map tied⟩
theorem level_step {cs : List Int} {o : List Place} {k : Nat} {x : Int} (h : o = (cs.take k).map tied) (hx : cs[k]? = some x) : o ++ [(⟨1, 0, [], ⟨x, 0, 0, 0, 0, 0, 0, 0, 0, 0, 0⟩⟩ : Place)] = (cs.take (k + 1)).map tied := by
  rw [take_snoc hx, List.map_append, h]; rfl
end Go.Proofs.YtoiiblkncbnlaaaGreat

/-
  Chapter 42: equal parts, and what each rank is paid. Conditions: those of each theorem.
-/
set_option linter.unusedVariables false
set_option linter.unusedSimpArgs false
namespace Go.Proofs.YtoiiblkncbnlaaaGreat
open Go.DL
set_option maxHeartbeats 4000000
theorem splitOK_ones {a : Int} {n : Nat} (ha : 0 ≤ a) (ha2 : a ≤ 1125899906842624) (h1 : 1 ≤ n) (h2 : n ≤ 256) : splitOK a (onesL n) :=
  ⟨ha, ha2, fun x hx => by have := List.eq_of_mem_replicate hx; omega, by rw [onesL_length]; exact h2, by rw [sumL_ones]; omega⟩
theorem ones_eq {n : Int} (h0 : 0 ≤ n) (h1 : n ≤ 1000) : g_ref42_ones n = some (onesL n.toNat) := by
  refine WP.eq ?_
  unfold g_ref42_ones
  refine WP.loop (fun v => (v.1 : Int) ≤ n ∧ v.2 = onesL v.1) (fun v => n.toNat - v.1) ?_ ⟨h0, rfl⟩
  rintro ⟨k, l⟩ ⟨hk, hv⟩
  dsimp only at hk hv ⊢
  subst hv
  simp only [g_ref42_ones_l2]
  refine WP.iteD (fun hlt => ?_) (fun hlt => ?_)
  · refine WP.ck (by simp only [onesL_length, List.length_cons, List.length_nil]; omega) ?_
    (repeat' (first | with_reducible (first | refine WP.iteT ?_ | refine WP.iteF ?_ | refine WP.iteNb ?_ | refine WP.iteD (fun _ => ?_) (fun _ => ?_) | refine WP.iteE (fun _ => ?_) (fun _ => ?_) | refine WP.iteN (fun _ => ?_) (fun _ => ?_) | refine WP.iteB (fun _ => ?_) (fun _ => ?_)) | (with_reducible refine WP.ckI ?_ ?_; · omega) | (with_reducible refine WP.gn ?_ (fun _ _ => ?_); · omega) | (with_reducible refine WP.gt ?_ (fun _ _ => ?_); · omega) | with_reducible (first | refine WP.up ?_ | refine WP.letO ?_ | refine WP.ret ?_)))
    exact ⟨⟨by dsimp only; omega, (onesL_succ k).symm⟩, by dsimp only; omega⟩
  · unfold g_ref42_ones_j1
    (repeat' (first | with_reducible (first | refine WP.iteT ?_ | refine WP.iteF ?_ | refine WP.iteNb ?_ | refine WP.iteD (fun _ => ?_) (fun _ => ?_) | refine WP.iteE (fun _ => ?_) (fun _ => ?_) | refine WP.iteN (fun _ => ?_) (fun _ => ?_) | refine WP.iteB (fun _ => ?_) (fun _ => ?_)) | (with_reducible refine WP.ckI ?_ ?_; · omega) | (with_reducible refine WP.gn ?_ (fun _ _ => ?_); · omega) | (with_reducible refine WP.gt ?_ (fun _ _ => ?_); · omega) | with_reducible (first | refine WP.up ?_ | refine WP.letO ?_ | refine WP.ret ?_)))
    show onesL k = onesL n.toNat
    congr 1; omega
theorem rpart_eq {s : Sch} {r : Int} (hp : prOK 0 s.p = true) (hl : s.p.length ≤ 1000) (hr : 0 ≤ r) (hr2 : r ≤ 1000) : g_ref42_Part s r = some (part s.p r) := by
  refine WP.eq ?_
  unfold g_ref42_Part
  refine WP.loop (fun k => k ≤ s.p.length ∧ part (s.p.drop k) r = part s.p r) (fun k => s.p.length - k) ?_ ⟨by omega, rfl⟩
  rintro k ⟨hk, iv⟩
  simp only [g_ref42_Part_l2]
  refine WP.iteD (fun hlt => ?_) (fun hlt => ?_)
  · obtain ⟨x, hx⟩ : ∃ x, s.p[k]? = some x := ⟨_, List.getElem?_eq_getElem (by omega)⟩
    rw [gn_some hx]
    obtain ⟨p1, p2, p3, p4, p5⟩ := prOK_mem hp x (List.mem_of_getElem? hx)
    have j3 : ∀ b, (b = true ↔ x.f ≤ r ∧ r ≤ x.t) → WP (g_ref42_Part_j3 x r k s b) (Rnd (fun k => k ≤ s.p.length ∧ part (s.p.drop k) r = part s.p r) (fun k => s.p.length - k) (s.p.length - k) fun z => z = part s.p r) := fun b hb => by
      unfold g_ref42_Part_j3
      cases b
      · (repeat' (first | with_reducible (first | refine WP.iteT ?_ | refine WP.iteF ?_ | refine WP.iteNb ?_ | refine WP.iteD (fun _ => ?_) (fun _ => ?_) | refine WP.iteE (fun _ => ?_) (fun _ => ?_) | refine WP.iteN (fun _ => ?_) (fun _ => ?_) | refine WP.iteB (fun _ => ?_) (fun _ => ?_)) | (with_reducible refine WP.ckI ?_ ?_; · omega) | (with_reducible refine WP.gn ?_ (fun _ _ => ?_); · omega) | (with_reducible refine WP.gt ?_ (fun _ _ => ?_); · omega) | with_reducible (first | refine WP.up ?_ | refine WP.letO ?_ | refine WP.ret ?_)))
        refine ⟨⟨by omega, ?_⟩, by dsimp only; omega⟩
        exact part_skip iv hx fun h => by cases hb.2 h
      · have hh := hb.1 rfl
        (first | with_reducible (first | refine WP.iteT ?_ | refine WP.iteF ?_ | refine WP.iteNb ?_ | refine WP.iteD (fun _ => ?_) (fun _ => ?_) | refine WP.iteE (fun _ => ?_) (fun _ => ?_) | refine WP.iteN (fun _ => ?_) (fun _ => ?_) | refine WP.iteB (fun _ => ?_) (fun _ => ?_)) | (with_reducible refine WP.ckI ?_ ?_; · omega) | (with_reducible refine WP.gn ?_ (fun _ _ => ?_); · omega) | (with_reducible refine WP.gt ?_ (fun _ _ => ?_); · omega) | with_reducible (first | refine WP.up ?_ | refine WP.letO ?_ | refine WP.ret ?_)); (first | with_reducible (first | refine WP.iteT ?_ | refine WP.iteF ?_ | refine WP.iteNb ?_ | refine WP.iteD (fun _ => ?_) (fun _ => ?_) | refine WP.iteE (fun _ => ?_) (fun _ => ?_) | refine WP.iteN (fun _ => ?_) (fun _ => ?_) | refine WP.iteB (fun _ => ?_) (fun _ => ?_)) | (with_reducible refine WP.ckI ?_ ?_; · omega) | (with_reducible refine WP.gn ?_ (fun _ _ => ?_); · omega) | (with_reducible refine WP.gt ?_ (fun _ _ => ?_); · omega) | with_reducible (first | refine WP.up ?_ | refine WP.letO ?_ | refine WP.ret ?_)); (first | with_reducible (first | refine WP.iteT ?_ | refine WP.iteF ?_ | refine WP.iteNb ?_ | refine WP.iteD (fun _ => ?_) (fun _ => ?_) | refine WP.iteE (fun _ => ?_) (fun _ => ?_) | refine WP.iteN (fun _ => ?_) (fun _ => ?_) | refine WP.iteB (fun _ => ?_) (fun _ => ?_)) | (with_reducible refine WP.ckI ?_ ?_; · omega) | (with_reducible refine WP.gn ?_ (fun _ _ => ?_); · omega) | (with_reducible refine WP.gt ?_ (fun _ _ => ?_); · omega) | with_reducible (first | refine WP.up ?_ | refine WP.letO ?_ | refine WP.ret ?_))
        refine WP.bd (ones_eq (by omega) (by omega)) ?_
        refine WP.bd (r := (eqL x.a (x.t - x.f + 1).toNat, 0)) ?_ ?_
        · unfold g_ref05_Split
          rw [if_pos (splitOK_ones (by omega) (by omega) (by omega) (by omega))]; rfl
        · have hlen : ((eqL x.a (x.t - x.f + 1).toNat).length : Int) = x.t - x.f + 1 := by rw [eqL_length]; omega
          (first | with_reducible (first | refine WP.iteT ?_ | refine WP.iteF ?_ | refine WP.iteNb ?_ | refine WP.iteD (fun _ => ?_) (fun _ => ?_) | refine WP.iteE (fun _ => ?_) (fun _ => ?_) | refine WP.iteN (fun _ => ?_) (fun _ => ?_) | refine WP.iteB (fun _ => ?_) (fun _ => ?_)) | (with_reducible refine WP.ckI ?_ ?_; · omega) | (with_reducible refine WP.gn ?_ (fun _ _ => ?_); · omega) | (with_reducible refine WP.gt ?_ (fun _ _ => ?_); · omega) | with_reducible (first | refine WP.up ?_ | refine WP.letO ?_ | refine WP.ret ?_))
          refine WP.gt (by dsimp only; omega) fun y hy => ?_
          (repeat' (first | with_reducible (first | refine WP.iteT ?_ | refine WP.iteF ?_ | refine WP.iteNb ?_ | refine WP.iteD (fun _ => ?_) (fun _ => ?_) | refine WP.iteE (fun _ => ?_) (fun _ => ?_) | refine WP.iteN (fun _ => ?_) (fun _ => ?_) | refine WP.iteB (fun _ => ?_) (fun _ => ?_)) | (with_reducible refine WP.ckI ?_ ?_; · omega) | (with_reducible refine WP.gn ?_ (fun _ _ => ?_); · omega) | (with_reducible refine WP.gt ?_ (fun _ _ => ?_); · omega) | with_reducible (first | refine WP.up ?_ | refine WP.letO ?_ | refine WP.ret ?_)))
          exact part_here iv hx hh hy
    (repeat' (first | with_reducible (first | refine WP.iteT ?_ | refine WP.iteF ?_ | refine WP.iteNb ?_ | refine WP.iteD (fun _ => ?_) (fun _ => ?_) | refine WP.iteE (fun _ => ?_) (fun _ => ?_) | refine WP.iteN (fun _ => ?_) (fun _ => ?_) | refine WP.iteB (fun _ => ?_) (fun _ => ?_)) | (with_reducible refine WP.ckI ?_ ?_; · omega) | (with_reducible refine WP.gn ?_ (fun _ _ => ?_); · omega) | (with_reducible refine WP.gt ?_ (fun _ _ => ?_); · omega) | with_reducible (first | refine WP.up ?_ | refine WP.letO ?_ | refine WP.ret ?_)))
    all_goals refine j3 _ ?_
    all_goals try simp only [decide_eq_true_eq, true_iff, Bool.false_eq_true, false_iff]
    all_goals omega
  · unfold g_ref42_Part_j1
    (repeat' (first | with_reducible (first | refine WP.iteT ?_ | refine WP.iteF ?_ | refine WP.iteNb ?_ | refine WP.iteD (fun _ => ?_) (fun _ => ?_) | refine WP.iteE (fun _ => ?_) (fun _ => ?_) | refine WP.iteN (fun _ => ?_) (fun _ => ?_) | refine WP.iteB (fun _ => ?_) (fun _ => ?_)) | (with_reducible refine WP.ckI ?_ ?_; · omega) | (with_reducible refine WP.gn ?_ (fun _ _ => ?_); · omega) | (with_reducible refine WP.gt ?_ (fun _ _ => ?_); · omega) | with_reducible (first | refine WP.up ?_ | refine WP.letO ?_ | refine WP.ret ?_)))
    show (0 : Int) = part s.p r
    rw [← iv, List.drop_eq_nil_of_le (by omega)]; rfl
/-- One more than half of the ones stands; the doubling goes on. -/
theorem repeat_eq {n : Int} (h1 : 1 ≤ n) (h2 : n ≤ 256) : g_slices_Repeat_Lint_int [(1 : Int)] n = some (onesL n.toNat) := by
  refine WP.eq ?_
  obtain ⟨m, rfl⟩ : ∃ m : Nat, n = (m : Int) := ⟨n.toNat, by omega⟩
  unfold g_slices_Repeat_Lint_int
  have hw1 : IntKind.u64.wrap ((([(1 : Int)] : List Int).length : Nat) : Int) = 1 := by decide
  have hw2 : IntKind.u64.wrap (m : Int) = (m : Int) := by
    unfold IntKind.wrap; simp [IntKind.bits]; omega
  refine WP.iteD (fun h => absurd h (by omega)) (fun _ => ?_)
  refine WP.bd (r := (0, (m : Int))) ?_ ?_
  · rw [hw1, hw2]
    unfold g_bits_Mul
    rw [if_pos (by omega)]
    congr 2 <;> omega
  have hrep : ∀ k l, k ≤ m → l = onesL k ++ List.replicate (m - k) 0 → l.length = m := fun k l hk hl => by rw [hl]; simp [onesL]; omega
  have j1 : WP (g_slices_Repeat_Lint_int_j1 (0, (m : Int)) [1] false) (fun x => x = onesL (m : Int).toNat) := by
    unfold g_slices_Repeat_Lint_int_j1
    (first | with_reducible (first | refine WP.iteT ?_ | refine WP.iteF ?_ | refine WP.iteNb ?_ | refine WP.iteD (fun _ => ?_) (fun _ => ?_) | refine WP.iteE (fun _ => ?_) (fun _ => ?_) | refine WP.iteN (fun _ => ?_) (fun _ => ?_) | refine WP.iteB (fun _ => ?_) (fun _ => ?_)) | (with_reducible refine WP.ckI ?_ ?_; · omega) | (with_reducible refine WP.gn ?_ (fun _ _ => ?_); · omega) | (with_reducible refine WP.gt ?_ (fun _ _ => ?_); · omega) | with_reducible (first | refine WP.up ?_ | refine WP.letO ?_ | refine WP.ret ?_)); (first | with_reducible (first | refine WP.iteT ?_ | refine WP.iteF ?_ | refine WP.iteNb ?_ | refine WP.iteD (fun _ => ?_) (fun _ => ?_) | refine WP.iteE (fun _ => ?_) (fun _ => ?_) | refine WP.iteN (fun _ => ?_) (fun _ => ?_) | refine WP.iteB (fun _ => ?_) (fun _ => ?_)) | (with_reducible refine WP.ckI ?_ ?_; · omega) | (with_reducible refine WP.gn ?_ (fun _ _ => ?_); · omega) | (with_reducible refine WP.gt ?_ (fun _ _ => ?_); · omega) | with_reducible (first | refine WP.up ?_ | refine WP.letO ?_ | refine WP.ret ?_))
    refine WP.ck (by dsimp only; omega) ?_
    refine WP.ck (by simp) ?_
    refine WP.letO ?_
    refine WP.loop (fun v => 1 ≤ v.1 ∧ v.1 ≤ m ∧ v.2 = onesL v.1 ++ List.replicate (m - v.1) 0) (fun v => m - v.1) ?_ ?_
    · rintro ⟨k, l⟩ ⟨hk, hk2, hv⟩
      dsimp only at hk hk2 hv ⊢
      have hlen := hrep k l hk2 hv
      simp only [g_slices_Repeat_Lint_int_l3]
      rw [hlen]
      refine WP.iteD (fun hlt => ?_) (fun hlt => ?_)
      · refine WP.sbp (by simp; omega) ?_
        refine WP.sbp (by simp; omega) ?_
        refine WP.ck (by simp; omega) ?_
        refine WP.ck (by simp; omega) ?_
        refine WP.letO ?_
        have e1 : ((some (k : Int)).getD 0).toNat = k := by simp
        have e2 : (((none : Option Int).getD ((m : Nat) : Int)).toNat - k) = m - k := by simp
        have e3 : (((none : Option Int).getD 0).toNat) = 0 := by simp
        have e4 : ((some (k : Int)).getD ((m : Nat) : Int)).toNat - 0 = k := by simp
        simp only [e1, e2, e3, e4]
        have hk3 : k < m := by omega
        obtain ⟨j, hj⟩ : ∃ j, j = Nat.min k (m - k) := ⟨_, rfl⟩
        have hj1 : 1 ≤ j := by rw [hj, show Nat.min k (m - k) = min k (m - k) from rfl]; omega
        have hj2 : j ≤ k := by rw [hj, show Nat.min k (m - k) = min k (m - k) from rfl]; omega
        have hj3 : j ≤ m - k := by rw [hj, show Nat.min k (m - k) = min k (m - k) from rfl]; omega
        have t1 : l.take k = onesL k := by rw [hv, List.take_append_of_le_length (by simp [onesL])]; simp [onesL]
        have t2 : ((l.drop 0).take k).length = k := by rw [List.drop_zero, t1, onesL_length]
        have t3 : l.drop (k + j) = List.replicate (m - (k + j)) 0 := by
          rw [hv, List.drop_append, List.drop_eq_nil_of_le (by simp [onesL]), onesL_length, List.nil_append, List.drop_replicate]
          congr 1; omega
        rw [t2, ← hj, List.drop_zero, t1, t3]
        (repeat' (first | with_reducible (first | refine WP.iteT ?_ | refine WP.iteF ?_ | refine WP.iteNb ?_ | refine WP.iteD (fun _ => ?_) (fun _ => ?_) | refine WP.iteE (fun _ => ?_) (fun _ => ?_) | refine WP.iteN (fun _ => ?_) (fun _ => ?_) | refine WP.iteB (fun _ => ?_) (fun _ => ?_)) | (with_reducible refine WP.ckI ?_ ?_; · omega) | (with_reducible refine WP.gn ?_ (fun _ _ => ?_); · omega) | (with_reducible refine WP.gt ?_ (fun _ _ => ?_); · omega) | with_reducible (first | refine WP.up ?_ | refine WP.letO ?_ | refine WP.ret ?_)))
        refine ⟨⟨by dsimp only; omega, by dsimp only; omega, ?_⟩, by dsimp only; omega⟩
        dsimp only
        congr 1
        unfold onesL
        rw [List.take_replicate, Nat.min_eq_left hj2, List.replicate_append_replicate]
      · unfold g_slices_Repeat_Lint_int_j2
        (repeat' (first | with_reducible (first | refine WP.iteT ?_ | refine WP.iteF ?_ | refine WP.iteNb ?_ | refine WP.iteD (fun _ => ?_) (fun _ => ?_) | refine WP.iteE (fun _ => ?_) (fun _ => ?_) | refine WP.iteN (fun _ => ?_) (fun _ => ?_) | refine WP.iteB (fun _ => ?_) (fun _ => ?_)) | (with_reducible refine WP.ckI ?_ ?_; · omega) | (with_reducible refine WP.gn ?_ (fun _ _ => ?_); · omega) | (with_reducible refine WP.gt ?_ (fun _ _ => ?_); · omega) | with_reducible (first | refine WP.up ?_ | refine WP.letO ?_ | refine WP.ret ?_)))
        show l = _
        rw [hv, show m - k = 0 by omega]
        simp; congr 1; omega
    · have e0 : ((0 : Int), (m : Int)).2.toNat = m := by simp
      have e1 : Nat.min ([(1 : Int)] : List Int).length (List.replicate ((0 : Int), (m : Int)).2.toNat (0 : Int)).length = 1 := by
        rw [e0, List.length_replicate, List.length_singleton]; exact Nat.min_eq_left (by omega)
      rw [e1, e0]
      refine ⟨by omega, by dsimp only; omega, ?_⟩
      simp [onesL]
  (repeat' (first | with_reducible (first | refine WP.iteT ?_ | refine WP.iteF ?_ | refine WP.iteNb ?_ | refine WP.iteD (fun _ => ?_) (fun _ => ?_) | refine WP.iteE (fun _ => ?_) (fun _ => ?_) | refine WP.iteN (fun _ => ?_) (fun _ => ?_) | refine WP.iteB (fun _ => ?_) (fun _ => ?_)) | (with_reducible refine WP.ckI ?_ ?_; · omega) | (with_reducible refine WP.gn ?_ (fun _ _ => ?_); · omega) | (with_reducible refine WP.gt ?_ (fun _ _ => ?_); · omega) | with_reducible (first | refine WP.up ?_ | refine WP.letO ?_ | refine WP.ret ?_)))
  · rename_i h; exact absurd h (by simp)
  · have : decide (((0 : Int), (m : Int)).2 > 9223372036854775807) = false := by simp; omega
    rw [this]; exact j1
theorem equal_eq {a n : Int} (ha : 0 ≤ a) (ha2 : a ≤ 1125899906842624) (h1 : 1 ≤ n) (h2 : n ≤ 256) : g_prizes_equal a n = some (eqL a n.toNat) := by
  refine WP.eq ?_
  unfold g_prizes_equal
  refine WP.bd (repeat_eq h1 h2) ?_
  refine WP.bd (r := (eqL a n.toNat, 0)) ?_ (WP.ret rfl)
  unfold g_money_Split
  rw [if_pos (splitOK_ones ha ha2 (by omega) (by omega))]; rfl
theorem parts_eq {s : Sch} (hp : prOK 0 s.p = true) (hl : s.p.length ≤ 1000) : g_prizes_parts s = some (partL s.p) := by
  refine WP.eq ?_
  unfold g_prizes_parts
  refine WP.ck (by omega) ?_
  refine WP.loop (fun v => v.1 ≤ s.p.length ∧ v.2.length = 25 ∧ v.2 = fillL (s.p.take v.1) (List.replicate 25 0)) (fun v => s.p.length - v.1) ?_ ⟨by simp, by simp, by simp [fillL]⟩
  rintro ⟨k, l⟩ ⟨hk, h25, hv⟩
  dsimp only at hk h25 hv ⊢
  simp only [g_prizes_parts_l2]
  refine WP.iteD (fun hlt => ?_) (fun hlt => ?_)
  · obtain ⟨x, hx⟩ : ∃ x, s.p[k]? = some x := ⟨_, List.getElem?_eq_getElem (by omega)⟩
    rw [gn_some hx]
    obtain ⟨p1, p2, p3, p4, p5⟩ := prOK_mem hp x (List.mem_of_getElem? hx)
    (first | with_reducible (first | refine WP.iteT ?_ | refine WP.iteF ?_ | refine WP.iteNb ?_ | refine WP.iteD (fun _ => ?_) (fun _ => ?_) | refine WP.iteE (fun _ => ?_) (fun _ => ?_) | refine WP.iteN (fun _ => ?_) (fun _ => ?_) | refine WP.iteB (fun _ => ?_) (fun _ => ?_)) | (with_reducible refine WP.ckI ?_ ?_; · omega) | (with_reducible refine WP.gn ?_ (fun _ _ => ?_); · omega) | (with_reducible refine WP.gt ?_ (fun _ _ => ?_); · omega) | with_reducible (first | refine WP.up ?_ | refine WP.letO ?_ | refine WP.ret ?_)); (first | with_reducible (first | refine WP.iteT ?_ | refine WP.iteF ?_ | refine WP.iteNb ?_ | refine WP.iteD (fun _ => ?_) (fun _ => ?_) | refine WP.iteE (fun _ => ?_) (fun _ => ?_) | refine WP.iteN (fun _ => ?_) (fun _ => ?_) | refine WP.iteB (fun _ => ?_) (fun _ => ?_)) | (with_reducible refine WP.ckI ?_ ?_; · omega) | (with_reducible refine WP.gn ?_ (fun _ _ => ?_); · omega) | (with_reducible refine WP.gt ?_ (fun _ _ => ?_); · omega) | with_reducible (first | refine WP.up ?_ | refine WP.letO ?_ | refine WP.ret ?_))
    refine WP.bd (equal_eq (by omega) (by omega) (by omega) (by omega)) ?_
    have hel : (eqL x.a (x.t - x.f + 1).toNat).length = (x.t - x.f + 1).toNat := eqL_length _ _
    refine WP.loop (fun v => v.1 ≤ (x.t - x.f + 1).toNat ∧ v.2 = putAt l x.f.toNat ((eqL x.a (x.t - x.f + 1).toNat).take v.1)) (fun v => (x.t - x.f + 1).toNat - v.1) ?_ ⟨by simp, by simp [putAt_nil]⟩
    rintro ⟨j, l'⟩ ⟨hj, hv'⟩
    dsimp only at hj hv' ⊢
    simp only [g_prizes_parts_l4]
    refine WP.iteD (fun hlt2 => ?_) (fun hlt2 => ?_)
    · obtain ⟨y, hy⟩ : ∃ y, (eqL x.a (x.t - x.f + 1).toNat)[j]? = some y := ⟨_, List.getElem?_eq_getElem (by omega)⟩
      rw [gn_some hy]
      have hjl : ((eqL x.a (x.t - x.f + 1).toNat).take j).length = j := by rw [List.length_take, hel]; omega
      have hl' : l'.length = 25 := by rw [hv', putAt_length (by rw [hjl]; omega)]; exact h25
      (first | with_reducible (first | refine WP.iteT ?_ | refine WP.iteF ?_ | refine WP.iteNb ?_ | refine WP.iteD (fun _ => ?_) (fun _ => ?_) | refine WP.iteE (fun _ => ?_) (fun _ => ?_) | refine WP.iteN (fun _ => ?_) (fun _ => ?_) | refine WP.iteB (fun _ => ?_) (fun _ => ?_)) | (with_reducible refine WP.ckI ?_ ?_; · omega) | (with_reducible refine WP.gn ?_ (fun _ _ => ?_); · omega) | (with_reducible refine WP.gt ?_ (fun _ _ => ?_); · omega) | with_reducible (first | refine WP.up ?_ | refine WP.letO ?_ | refine WP.ret ?_))
      refine WP.gt (by omega) fun z hz => ?_
      (repeat' (first | with_reducible (first | refine WP.iteT ?_ | refine WP.iteF ?_ | refine WP.iteNb ?_ | refine WP.iteD (fun _ => ?_) (fun _ => ?_) | refine WP.iteE (fun _ => ?_) (fun _ => ?_) | refine WP.iteN (fun _ => ?_) (fun _ => ?_) | refine WP.iteB (fun _ => ?_) (fun _ => ?_)) | (with_reducible refine WP.ckI ?_ ?_; · omega) | (with_reducible refine WP.gn ?_ (fun _ _ => ?_); · omega) | (with_reducible refine WP.gt ?_ (fun _ _ => ?_); · omega) | with_reducible (first | refine WP.up ?_ | refine WP.letO ?_ | refine WP.ret ?_)))
      refine ⟨⟨by dsimp only; omega, ?_⟩, by dsimp only; omega⟩
      dsimp only
      rw [hv', show (x.f + (j : Int)).toNat = x.f.toNat + ((eqL x.a (x.t - x.f + 1).toNat).take j).length by rw [hjl]; omega, putAt_snoc (by rw [hjl]; omega), take_snoc hy]
    · unfold g_prizes_parts_j3
      rw [List.take_of_length_le (by omega)] at hv'
      (repeat' (first | with_reducible (first | refine WP.iteT ?_ | refine WP.iteF ?_ | refine WP.iteNb ?_ | refine WP.iteD (fun _ => ?_) (fun _ => ?_) | refine WP.iteE (fun _ => ?_) (fun _ => ?_) | refine WP.iteN (fun _ => ?_) (fun _ => ?_) | refine WP.iteB (fun _ => ?_) (fun _ => ?_)) | (with_reducible refine WP.ckI ?_ ?_; · omega) | (with_reducible refine WP.gn ?_ (fun _ _ => ?_); · omega) | (with_reducible refine WP.gt ?_ (fun _ _ => ?_); · omega) | with_reducible (first | refine WP.up ?_ | refine WP.letO ?_ | refine WP.ret ?_)))
      refine ⟨⟨by dsimp only; omega, ?_, ?_⟩, by dsimp only; omega⟩
      · dsimp only; rw [hv', putAt_length (by rw [hel]; omega)]; exact h25
      · dsimp only; rw [take_snoc hx, hv', hv]; simp [fillL, List.foldl_append]
  · unfold g_prizes_parts_j1
    (repeat' (first | with_reducible (first | refine WP.iteT ?_ | refine WP.iteF ?_ | refine WP.iteNb ?_ | refine WP.iteD (fun _ => ?_) (fun _ => ?_) | refine WP.iteE (fun _ => ?_) (fun _ => ?_) | refine WP.iteN (fun _ => ?_) (fun _ => ?_) | refine WP.iteB (fun _ => ?_) (fun _ => ?_)) | (with_reducible refine WP.ckI ?_ ?_; · omega) | (with_reducible refine WP.gn ?_ (fun _ _ => ?_); · omega) | (with_reducible refine WP.gt ?_ (fun _ _ => ?_); · omega) | with_reducible (first | refine WP.up ?_ | refine WP.letO ?_ | refine WP.ret ?_)))
    refine WP.sb (by simp; omega) ?_
    refine WP.ret ?_
    rw [List.take_of_length_le (by omega)] at hv
    show subList l (some 1) none = partL s.p
    rw [hv, ← fill_partL hp]; rfl
end Go.Proofs.YtoiiblkncbnlaaaGreat

/-
  Chapter 42: the program's prizes. Conditions: those of each theorem.
-/
set_option linter.unusedVariables false
set_option linter.unusedSimpArgs false
namespace Go.Proofs.YtoiiblkncbnlaaaGreat
open Go.DL
set_option maxHeartbeats 4000000
theorem grpGo_flat (l : List Place) : ∀ (g : List Place) (k : Int), g ≠ [] → (grpGo g k l).flatten = g ++ l ∧ ∀ x ∈ grpGo g k l, x ≠ [] := by
  induction l with
  | nil => intro g k h; simp [grpGo, h]
  | cons p l ih =>
    intro g k h
    rw [grpGo]
    split
    · have := ih (g ++ [p]) k (by simp)
      exact ⟨by rw [this.1]; simp, this.2⟩
    · have := ih [p] p.k (by simp)
      refine ⟨by rw [List.flatten_cons, this.1]; simp, fun x hx => ?_⟩
      rcases List.mem_cons.1 hx with rfl | h2
      · exact h
      · exact this.2 x h2
theorem grp_flat (l : List Place) : (grp l).flatten = l ∧ ∀ x ∈ grp l, x ≠ [] := by
  cases l with
  | nil => simp [grp]
  | cons p l => have := grpGo_flat l [p] p.k (by simp); exact ⟨by rw [grp, this.1]; rfl, this.2⟩
theorem share_sub : ∀ (ps : List Place) (ns : List Int), ((share ps ns).map (·.c)).Sublist (ps.map clubOf)
  | [], _ => by simp [share]
  | p :: ps, [] => by simp [share]
  | p :: ps, n :: ns => by
    rw [share]
    split
    · exact (share_sub ps ns).cons_cons _
    · exact (share_sub ps ns).cons _
theorem payG_sub (gs : List (List Place)) : ∀ r : List Int, ((payG r gs).map (·.c)).Sublist (gs.flatten.map clubOf) := by
  induction gs with
  | nil => intro r; simp [payG]
  | cons g gs ih =>
    intro r
    rw [payG, List.map_append, List.flatten_cons, List.map_append]
    exact (share_sub _ _).append (ih _)
theorem payU_sub (t : Tab) (s : Sch) : ((payU t s).map (·.c)).Sublist (t.l.map clubOf) := by
  have := payG_sub (grp t.l) (partL s.p)
  rwa [(grp_flat t.l).1] at this
theorem payU_len (t : Tab) (s : Sch) : (payU t s).length ≤ t.l.length := by
  have := (payU_sub t s).length_le
  simpa using this
theorem plOK_nodup : ∀ (l : List Place) (k : Nat) (q : Place) (seen : List Int), plOK k q seen l = true → (l.map clubOf).Nodup ∧ ∀ x ∈ l.map clubOf, x ∉ seen
  | [], _, _, _, _ => by simp
  | p :: l, k, q, seen, h => by
    rw [plOK] at h
    split at h
    · rename_i hp
      obtain ⟨h1, h2⟩ := plOK_nodup l (k + 1) p _ h
      rw [List.map_cons, List.nodup_cons]
      refine ⟨⟨fun hc => ?_, h1⟩, fun x hx => ?_⟩
      · have := h2 _ hc
        simp [clubOf] at this
      · rcases List.mem_cons.1 hx with rfl | h3
        · exact hp.2.2.2
        · have := h2 _ h3
          simp at this
          exact this.1
    · cases h
theorem chk_nodup {t : Tab} (h : chkT t = 0) : (t.l.map clubOf).Nodup := by
  rcases chkT_cases t with h1 | ⟨_, _, h1⟩
  · omega
  · exact (plOK_nodup _ _ _ _ h1).1
theorem payU_nodup {t : Tab} {s : Sch} (h : chkT t = 0) : ((payU t s).map (·.c)).Nodup := (payU_sub t s).nodup (chk_nodup h)
theorem insP_perm (p : Pay) (l : List Pay) : (insP p l).Perm (p :: l) := by
  induction l with
  | nil => exact List.Perm.refl _
  | cons q l ih =>
    rw [insP]; split
    · exact (ih.cons q).trans (List.Perm.swap p q l)
    · exact List.Perm.refl _
theorem insP_sorted {p : Pay} {l : List Pay} (h : l.Pairwise fun a b => ¬ b.c < a.c) : (insP p l).Pairwise fun a b => ¬ b.c < a.c := by
  induction l with
  | nil => simp [insP]
  | cons q l ih =>
    rw [List.pairwise_cons] at h
    rw [insP]; split
    · rename_i hq
      rw [List.pairwise_cons]
      refine ⟨fun x hx => ?_, ih h.2⟩
      rcases List.mem_cons.1 ((insP_perm p l).mem_iff.1 hx) with rfl | h2
      · omega
      · exact h.1 x h2
    · rename_i hq
      rw [List.pairwise_cons]
      refine ⟨fun x hx => ?_, List.pairwise_cons.2 h⟩
      rcases List.mem_cons.1 hx with rfl | h2
      · exact hq
      · have := h.1 x h2; omega
theorem insF_sorted (l : List Pay) : ∀ o : List Pay, (o.Pairwise fun a b => ¬ b.c < a.c) → (insF o l).Perm (o ++ l) ∧ (insF o l).Pairwise fun a b => ¬ b.c < a.c := by
  induction l with
  | nil => intro o h; exact ⟨by simp [insF], h⟩
  | cons p l ih =>
    intro o h
    have := ih (insP p o) (insP_sorted h)
    refine ⟨?_, this.2⟩
    refine this.1.trans ?_
    exact ((insP_perm p o).append_right l).trans (List.perm_middle.symm)
theorem insAll_eq {l : List Pay} (h : (l.map (·.c)).Nodup) : insAll l = srtP l := by
  have := insF_sorted l [] List.Pairwise.nil
  exact sortP_uniq ⟨by have h1 := this.1; rw [List.nil_append] at h1; exact h1, this.2⟩ h
end Go.Proofs.YtoiiblkncbnlaaaGreat

/-
  Chapter 42: what the program's prizes compute. Conditions: those of each theorem.
-/
set_option linter.unusedVariables false
set_option linter.unusedSimpArgs false
namespace Go.Proofs.YtoiiblkncbnlaaaGreat
open Go.DL
set_option maxHeartbeats 4000000
theorem len0_eq : g_math_bits_Len 0 = some 0 := by
  refine WP.eq ?_
  unfold g_math_bits_Len
  refine WP.bd (r := 0) ?_ (WP.ret rfl)
  refine WP.eq ?_
  unfold g_math_bits_Len64 g_math_bits_Len64_j1 g_math_bits_Len64_j2 g_math_bits_Len64_j3
  refine WP.iteD (fun h => absurd h (by omega)) (fun _ => ?_)
  refine WP.iteD (fun h => absurd h (by omega)) (fun _ => ?_)
  refine WP.iteD (fun h => absurd h (by omega)) (fun _ => ?_)
  rw [gt_some (x := 0) (by rfl) (by decide)]
  refine WP.ckI (by decide) ?_
  refine WP.ckI (by decide) (WP.ret ?_)
  decide
theorem srtP_nil : srtP [] = [] := by simp [srtP]
theorem prizes_j1_eq {l : List Pay} (hn : (l.map (·.c)).Nodup) (hl : l.length ≤ 1000) : g_prizes_Prizes_j1 l = some (srtP l, 0) := by
  unfold g_prizes_Prizes_j1
  by_cases h : l = []
  · rw [if_pos h, len0_eq, bd_some]
    have h5 : (g_prizes_Prizes_j5) = some (.inr ([], 0)) := rfl
    have h6 : loopO g_prizes_Prizes_l6 () = some (.inr ([], 0)) := loopO_inr (by rw [g_prizes_Prizes_l6, h5]; rfl)
    rw [loopO_inr (r := ([], 0)) (by rw [g_prizes_Prizes_l4]; exact h6), h, srtP_nil]
  · rw [if_neg h, ck_pos hn, ck_pos (by omega)]; rfl
section
variable {t : Tab} {s : Sch} {gs : List (List Place)} {U : List Pay}
theorem prizes_l11 {x : List Place} {ns rest : List Int} {k : Nat} {l : List Pay} {K : ((List Int) × Nat × (List Pay)) ⊕ ((List Pay) × Int) → Prop} (hx : ns.length = x.length) (hl : (l ++ share x ns).length ≤ 1000) (hk : k ≤ 1000) (hx2 : x.length ≤ 1000)
    (h : K (.inl (rest, k + 1, l ++ share x ns))) : WP (loopO (g_prizes_Prizes_l11 ns x rest gs k) (0, l)) K := by
  refine WP.loop (fun v => v.1 ≤ x.length ∧ v.2 ++ share (x.drop v.1) (ns.drop v.1) = l ++ share x ns) (fun v => x.length - v.1) ?_ ⟨by simp, by simp⟩
  rintro ⟨j, o⟩ ⟨hj, iv⟩
  dsimp only at hj iv ⊢
  simp only [g_prizes_Prizes_l11]
  refine WP.iteD (fun hlt => ?_) (fun hlt => ?_)
  · obtain ⟨n, hn⟩ : ∃ n, ns[j]? = some n := ⟨_, List.getElem?_eq_getElem (by omega)⟩
    obtain ⟨y, hy⟩ : ∃ y, x[j]? = some y := ⟨_, List.getElem?_eq_getElem (by omega)⟩
    rw [gn_some hn, gn_some hy]
    refine WP.iteD (fun hp => ?_) (fun hp => ?_)
    · rw [share_yes hy hn hp] at iv
      have hlen : o.length + 1 ≤ 1000 := by
        rw [← iv] at hl
        simp only [List.length_append, List.length_cons] at hl; omega
      refine WP.ck (by simp only [List.length_cons, List.length_nil]; omega) ?_
      unfold g_prizes_Prizes_j12
      (repeat' (first | with_reducible (first | refine WP.iteT ?_ | refine WP.iteF ?_ | refine WP.iteNb ?_ | refine WP.iteD (fun _ => ?_) (fun _ => ?_) | refine WP.iteE (fun _ => ?_) (fun _ => ?_) | refine WP.iteN (fun _ => ?_) (fun _ => ?_) | refine WP.iteB (fun _ => ?_) (fun _ => ?_)) | (with_reducible refine WP.ckI ?_ ?_; · omega) | (with_reducible refine WP.gn ?_ (fun _ _ => ?_); · omega) | (with_reducible refine WP.gt ?_ (fun _ _ => ?_); · omega) | with_reducible (first | refine WP.up ?_ | refine WP.letO ?_ | refine WP.ret ?_)))
      exact ⟨⟨by dsimp only; omega, by dsimp only; rw [← iv]; simp⟩, by dsimp only; omega⟩
    · rw [share_no hy hn hp] at iv
      unfold g_prizes_Prizes_j12
      (repeat' (first | with_reducible (first | refine WP.iteT ?_ | refine WP.iteF ?_ | refine WP.iteNb ?_ | refine WP.iteD (fun _ => ?_) (fun _ => ?_) | refine WP.iteE (fun _ => ?_) (fun _ => ?_) | refine WP.iteN (fun _ => ?_) (fun _ => ?_) | refine WP.iteB (fun _ => ?_) (fun _ => ?_)) | (with_reducible refine WP.ckI ?_ ?_; · omega) | (with_reducible refine WP.gn ?_ (fun _ _ => ?_); · omega) | (with_reducible refine WP.gt ?_ (fun _ _ => ?_); · omega) | with_reducible (first | refine WP.up ?_ | refine WP.letO ?_ | refine WP.ret ?_)))
      exact ⟨⟨by dsimp only; omega, iv⟩, by dsimp only; omega⟩
  · rw [share_end (by omega), List.append_nil] at iv
    unfold g_prizes_Prizes_j9
    (repeat' (first | with_reducible (first | refine WP.iteT ?_ | refine WP.iteF ?_ | refine WP.iteNb ?_ | refine WP.iteD (fun _ => ?_) (fun _ => ?_) | refine WP.iteE (fun _ => ?_) (fun _ => ?_) | refine WP.iteN (fun _ => ?_) (fun _ => ?_) | refine WP.iteB (fun _ => ?_) (fun _ => ?_)) | (with_reducible refine WP.ckI ?_ ?_; · omega) | (with_reducible refine WP.gn ?_ (fun _ _ => ?_); · omega) | (with_reducible refine WP.gt ?_ (fun _ _ => ?_); · omega) | with_reducible (first | refine WP.up ?_ | refine WP.letO ?_ | refine WP.ret ?_)))
    rw [iv]; exact h
theorem prizes_sum {x : List Place} {rest : List Int} {k : Nat} {l : List Pay} {K : ((List Int) × Nat × (List Pay)) ⊕ ((List Pay) × Int) → Prop} (hr : ∀ m, 0 ≤ sumL 0 (rest.take m) ∧ sumL 0 (rest.take m) ≤ 1125899906842624) (hx : x.length ≤ rest.length) (hx1 : 1 ≤ x.length) (hx2 : x.length ≤ 256) (hl : (l ++ share x (eqL (sumL 0 (rest.take x.length)) x.length)).length ≤ 1000) (hk : k ≤ 1000)
    (h : K (.inl (rest.drop x.length, k + 1, l ++ share x (eqL (sumL 0 (rest.take x.length)) x.length)))) : WP (loopO (g_prizes_Prizes_l13 (subList rest none (some ((x.length : Nat) : Int))) rest x gs k l) (0, 0)) K := by
  have e1 : subList rest none (some ((x.length : Nat) : Int)) = rest.take x.length := by simp [subList]
  have e2 : subList rest (some ((x.length : Nat) : Int)) none = rest.drop x.length := by simp [subList]
  have el : (rest.take x.length).length = x.length := by simp; omega
  rw [e1]
  refine WP.loop (fun v => v.2 ≤ x.length ∧ v.1 = sumL 0 (rest.take v.2)) (fun v => x.length - v.2) ?_ ⟨by simp, by simp [sumL]⟩
  rintro ⟨n, j⟩ ⟨hj, iv⟩
  dsimp only at hj iv ⊢
  simp only [g_prizes_Prizes_l13]
  refine WP.iteD (fun hlt => ?_) (fun hlt => ?_)
  · obtain ⟨y, hy⟩ : ∃ y, rest[j]? = some y := ⟨_, List.getElem?_eq_getElem (by omega)⟩
    have hy' : (rest.take x.length)[j]? = some y := by rw [List.getElem?_take_of_lt (by omega)]; exact hy
    rw [gn_some hy']
    have e3 : n + y = sumL 0 (rest.take (j + 1)) := by rw [take_snoc hy, sumL_snoc, iv]
    have := hr (j + 1)
    (repeat' (first | with_reducible (first | refine WP.iteT ?_ | refine WP.iteF ?_ | refine WP.iteNb ?_ | refine WP.iteD (fun _ => ?_) (fun _ => ?_) | refine WP.iteE (fun _ => ?_) (fun _ => ?_) | refine WP.iteN (fun _ => ?_) (fun _ => ?_) | refine WP.iteB (fun _ => ?_) (fun _ => ?_)) | (with_reducible refine WP.ckI ?_ ?_; · omega) | (with_reducible refine WP.gn ?_ (fun _ _ => ?_); · omega) | (with_reducible refine WP.gt ?_ (fun _ _ => ?_); · omega) | with_reducible (first | refine WP.up ?_ | refine WP.letO ?_ | refine WP.ret ?_)))
    exact ⟨⟨by dsimp only; omega, e3⟩, by dsimp only; omega⟩
  · have hjx : j = x.length := by omega
    subst hjx
    unfold g_prizes_Prizes_j10
    (first | with_reducible (first | refine WP.iteT ?_ | refine WP.iteF ?_ | refine WP.iteNb ?_ | refine WP.iteD (fun _ => ?_) (fun _ => ?_) | refine WP.iteE (fun _ => ?_) (fun _ => ?_) | refine WP.iteN (fun _ => ?_) (fun _ => ?_) | refine WP.iteB (fun _ => ?_) (fun _ => ?_)) | (with_reducible refine WP.ckI ?_ ?_; · omega) | (with_reducible refine WP.gn ?_ (fun _ _ => ?_); · omega) | (with_reducible refine WP.gt ?_ (fun _ _ => ?_); · omega) | with_reducible (first | refine WP.up ?_ | refine WP.letO ?_ | refine WP.ret ?_))
    refine WP.sb (by simp; omega) ?_
    rw [e2]
    have := hr x.length
    refine WP.bd (equal_eq (n := ((x.length : Nat) : Int)) (a := n) (by omega) (by omega) (by omega) (by omega)) ?_
    rw [iv, show (((x.length : Nat) : Int)).toNat = x.length by omega]
    exact prizes_l11 (eqL_length _ _) hl hk (by omega) h
/-- The groups' payments. -/
theorem prizes_j7 {ps : List Prize} (hp : prOK 0 ps = true) (hs : sumA ps ≤ 1125899906842624) (hg : gs.flatten.length ≤ 24) (hne : ∀ x ∈ gs, x ≠ []) (hn : ((payG (partL ps) gs).map (·.c)).Nodup) :
    g_prizes_Prizes_j7 (partL ps) gs = some (srtP (payG (partL ps) gs), 0) := by
  have hlen : (payG (partL ps) gs).length ≤ 24 := by
    have := (payG_sub gs (partL ps)).length_le
    rw [List.length_map, List.length_map] at this; omega
  have hgl : gs.length ≤ gs.flatten.length := by
    clear hg hn hlen
    induction gs with
    | nil => simp
    | cons g gs ih =>
      have h1 := hne g (by simp)
      have h2 := ih fun x hx => hne x (by simp [hx])
      have h3 : 1 ≤ g.length := by cases g with | nil => exact absurd rfl h1 | cons _ _ => simp
      simp only [List.length_cons, List.flatten_cons, List.length_append]; omega
  refine WP.eq ?_
  unfold g_prizes_Prizes_j7
  refine WP.loop (fun v => ∃ i, v.2.1 ≤ gs.length ∧ v.1 = (partL ps).drop i ∧ i + (gs.drop v.2.1).flatten.length ≤ 24 ∧ v.2.2 ++ payG v.1 (gs.drop v.2.1) = payG (partL ps) gs) (fun v => gs.length - v.2.1) ?_ ⟨0, by simp, by simp, by simpa using hg, by simp⟩
  rintro ⟨rest, k, l⟩ ⟨i, hk, hr, hi, iv⟩
  dsimp only at hk hr hi iv ⊢
  simp only [g_prizes_Prizes_l8]
  have hpl : (partL ps).length = 24 := by simp [partL]
  refine WP.iteD (fun hlt => ?_) (fun hlt => ?_)
  · obtain ⟨x, hx⟩ : ∃ x, gs[k]? = some x := ⟨_, List.getElem?_eq_getElem (by omega)⟩
    rw [gn_some hx]
    have hx1 : 1 ≤ x.length := by
      have := hne x (List.mem_of_getElem? hx)
      cases x with | nil => exact absurd rfl this | cons _ _ => simp
    rw [drop_cons hx, List.flatten_cons, List.length_append] at hi
    rw [drop_cons hx, payG] at iv
    have hrl : rest.length = 24 - i := by rw [hr, List.length_drop, hpl]
    refine WP.sb (by simp; omega) ?_
    refine prizes_sum (fun m => ?_) (by omega) hx1 (by omega) ?_ (by omega) ?_
    · rw [hr]
      exact ⟨sumL_nonneg fun y hy => partL_nonneg hp y (List.mem_of_mem_drop (List.mem_of_mem_take hy)), part_total hp hs i m⟩
    · have h1 := congrArg List.length iv
      simp only [List.length_append] at h1 ⊢
      omega
    · refine ⟨⟨i + x.length, by dsimp only; omega, by dsimp only; rw [hr, List.drop_drop], by dsimp only; omega, ?_⟩, by dsimp only; omega⟩
      dsimp only
      rw [List.append_assoc]; exact iv
  · rw [List.drop_eq_nil_of_le (by omega), payG, List.append_nil] at iv
    (repeat' (first | with_reducible (first | refine WP.iteT ?_ | refine WP.iteF ?_ | refine WP.iteNb ?_ | refine WP.iteD (fun _ => ?_) (fun _ => ?_) | refine WP.iteE (fun _ => ?_) (fun _ => ?_) | refine WP.iteN (fun _ => ?_) (fun _ => ?_) | refine WP.iteB (fun _ => ?_) (fun _ => ?_)) | (with_reducible refine WP.ckI ?_ ?_; · omega) | (with_reducible refine WP.gn ?_ (fun _ _ => ?_); · omega) | (with_reducible refine WP.gt ?_ (fun _ _ => ?_); · omega) | with_reducible (first | refine WP.up ?_ | refine WP.letO ?_ | refine WP.ret ?_)))
    subst iv
    exact WP.of (prizes_j1_eq hn (by omega)) rfl
end
theorem gprizes_eq {t : Tab} {s : Sch} (hl : t.l.length ≤ 1000) (hs : s.p.length ≤ 1000) : g_prizes_Prizes t s = some (if fitS t s = 0 then srtP (payU t s) else [], fitS t s) := by
  refine WP.eq ?_
  unfold g_prizes_Prizes
  refine WP.bd (fits_eq hl hs) ?_
  refine WP.iteN (fun h => ?_) (fun h => ?_)
  · rw [if_neg h]; exact WP.ret rfl
  rw [if_pos h, h]
  obtain ⟨hp, hsum, _⟩ := fit_prizes h
  have h24 := fit_ranges h
  have hn : ((payU t s).map (·.c)).Nodup := payU_nodup (fitS_ok h).1
  have hfl := grp_flat t.l
  have fin : g_prizes_Prizes_j7 (partL s.p) (grp t.l) = some (srtP (payU t s), 0) := prizes_j7 hp hsum (by rw [hfl.1]; omega) hfl.2 hn
  refine WP.bd (parts_eq hp hs) ?_
  refine WP.loop (fun v => match v with
    | .inl _ => True
    | .inr (k, a, b) => ∃ x, 1 ≤ k ∧ k ≤ t.l.length ∧ t.l[k - 1]? = some x ∧ a.length + 1 ≤ k ∧ b.length ≤ k ∧ grp t.l = a ++ grpGo b x.k (t.l.drop k)) (fun v => match v with
    | .inl _ => t.l.length + 1
    | .inr (k, _, _) => t.l.length - k) ?_ trivial
  rintro (_ | ⟨k, a, b⟩) iv
  · simp only [g_prizes_Prizes_l16]
    refine WP.iteD (fun hlt => ?_) (fun hlt => absurd (show (0 : Int) < ((t.l.length : Nat) : Int) by omega) hlt)
    obtain ⟨x, hx⟩ : ∃ x, t.l[0]? = some x := ⟨_, List.getElem?_eq_getElem (by omega)⟩
    rw [gn_some hx]
    refine WP.ret ?_
    refine ⟨⟨x, by omega, by omega, hx, by simp, by simp, ?_⟩, by dsimp only; omega⟩
    rw [List.nil_append]
    have h1 := drop_cons hx
    rw [List.drop_zero] at h1
    rw [h1]; rfl
  · obtain ⟨x, hk1, hk, hx, ha, hb, iv⟩ := iv
    simp only [g_prizes_Prizes_l16]
    refine WP.iteD (fun hlt => ?_) (fun hlt => ?_)
    · obtain ⟨y, hy⟩ : ∃ y, t.l[k]? = some y := ⟨_, List.getElem?_eq_getElem (by omega)⟩
      rw [gn_some hy]
      refine WP.iteD (fun _ => ?_) (fun h => absurd h (by omega))
      refine WP.ckI (by omega) ?_
      rw [gt_some (x := x) (by rw [show (((k : Nat) : Int) - 1).toNat = k - 1 by omega]; exact hx) (by omega)]
      refine WP.bd (r := (x.k == y.k)) rfl ?_
      rw [drop_cons hy, grpGo] at iv
      by_cases he : x.k = y.k
      · rw [if_pos he] at iv
        rw [show (x.k == y.k) = true by simpa using he]
        unfold g_prizes_Prizes_j18
        refine WP.iteT ?_
        refine WP.ckI (by omega) ?_
        refine WP.ck (by omega) ?_
        refine WP.ck (by omega) ?_
        refine WP.ck (by simp only [List.length_cons, List.length_nil]; omega) ?_
        unfold g_prizes_Prizes_j17
        refine WP.ckI (by omega) ?_
        refine WP.ret ?_
        exact ⟨⟨y, by omega, by omega, by simpa using hy, by omega, by simp; omega, by rw [← he]; exact iv⟩, by dsimp only; omega⟩
      · rw [if_neg he] at iv
        rw [show (x.k == y.k) = false by simpa using he]
        unfold g_prizes_Prizes_j18
        refine WP.iteF ?_
        refine WP.ck (by omega) ?_
        unfold g_prizes_Prizes_j17
        refine WP.ckI (by omega) ?_
        refine WP.ret ?_
        exact ⟨⟨y, by omega, by omega, by simpa using hy, by simp; omega, by first | (simp; done) | (simp; omega), by first | exact iv | (rw [List.append_assoc]; exact iv)⟩, by dsimp only; omega⟩
    · rw [List.drop_eq_nil_of_le (by omega), grpGo] at iv
      unfold g_prizes_Prizes_j15
      rw [← iv]
      refine WP.up ?_
      exact WP.of fin rfl
end Go.Proofs.YtoiiblkncbnlaaaGreat

/-
  Chapter 42: what the reference's prizes compute. Conditions: those of each theorem.
-/
set_option linter.unusedVariables false
set_option linter.unusedSimpArgs false
namespace Go.Proofs.YtoiiblkncbnlaaaGreat
open Go.DL
set_option maxHeartbeats 4000000
theorem insert_eq {l : List Pay} {p : Pay} (hl : l.length ≤ 1000) : g_ref42_insert l p = some (insP p l) := by
  refine WP.eq ?_
  unfold g_ref42_insert
  have stop : ∀ k : Nat, k ≤ l.length → (l.take k ++ ([p] ++ l.drop k)) = insP p l → WP (g_ref42_insert_j1 l p k) (fun z => z = insP p l) := fun k hk h => by
    unfold g_ref42_insert_j1
    refine WP.sb (by simp; omega) ?_
    have e : subList l (some ((k : Nat) : Int)) none = l.drop k := by simp [subList]
    rw [e]
    refine WP.ck (by simp; omega) ?_
    refine WP.ck (by omega) ?_
    refine WP.ck (by simp; omega) ?_
    exact WP.ret h
  refine WP.loop (fun k => k ≤ l.length ∧ insP p l = l.take k ++ insP p (l.drop k)) (fun k => l.length - k) ?_ ⟨by omega, by simp⟩
  rintro k ⟨hk, iv⟩
  simp only [g_ref42_insert_l2]
  refine WP.iteD (fun hlt => ?_) (fun hlt => ?_)
  · obtain ⟨x, hx⟩ : ∃ x, l[k]? = some x := ⟨_, List.getElem?_eq_getElem (by omega)⟩
    rw [gn_some hx]
    unfold g_ref42_insert_j3
    refine WP.iteD (fun h => ?_) (fun h => ?_)
    · (repeat' (first | with_reducible (first | refine WP.iteT ?_ | refine WP.iteF ?_ | refine WP.iteNb ?_ | refine WP.iteD (fun _ => ?_) (fun _ => ?_) | refine WP.iteE (fun _ => ?_) (fun _ => ?_) | refine WP.iteN (fun _ => ?_) (fun _ => ?_) | refine WP.iteB (fun _ => ?_) (fun _ => ?_)) | (with_reducible refine WP.ckI ?_ ?_; · omega) | (with_reducible refine WP.gn ?_ (fun _ _ => ?_); · omega) | (with_reducible refine WP.gt ?_ (fun _ _ => ?_); · omega) | with_reducible (first | refine WP.up ?_ | refine WP.letO ?_ | refine WP.ret ?_)))
      exact ⟨⟨by omega, insP_step iv hx h⟩, by dsimp only; omega⟩
    · refine WP.up ?_
      exact stop k hk (insP_at iv hk (.inr ⟨x, hx, h⟩))
  · unfold g_ref42_insert_j3
    refine WP.iteF (WP.up ?_)
    exact stop k hk (insP_at iv hk (.inl (by omega)))
theorem with_eq {l : List Int} {p : Int} (hl : l.length ≤ 1000) : g_ref42_with l p = some (insI p l) := by
  refine WP.eq ?_
  unfold g_ref42_with
  have stop : ∀ k : Nat, k ≤ l.length → (l.take k ++ ([p] ++ l.drop k)) = insI p l → WP (g_ref42_with_j1 l p k) (fun z => z = insI p l) := fun k hk h => by
    unfold g_ref42_with_j1
    refine WP.sb (by simp; omega) ?_
    have e : subList l (some ((k : Nat) : Int)) none = l.drop k := by simp [subList]
    rw [e]
    refine WP.ck (by simp; omega) ?_
    refine WP.ck (by omega) ?_
    refine WP.ck (by simp; omega) ?_
    exact WP.ret h
  refine WP.loop (fun k => k ≤ l.length ∧ insI p l = l.take k ++ insI p (l.drop k)) (fun k => l.length - k) ?_ ⟨by omega, by simp⟩
  rintro k ⟨hk, iv⟩
  simp only [g_ref42_with_l2]
  refine WP.iteD (fun hlt => ?_) (fun hlt => ?_)
  · obtain ⟨x, hx⟩ : ∃ x, l[k]? = some x := ⟨_, List.getElem?_eq_getElem (by omega)⟩
    rw [gn_some hx]
    unfold g_ref42_with_j3
    refine WP.iteD (fun h => ?_) (fun h => ?_)
    · (repeat' (first | with_reducible (first | refine WP.iteT ?_ | refine WP.iteF ?_ | refine WP.iteNb ?_ | refine WP.iteD (fun _ => ?_) (fun _ => ?_) | refine WP.iteE (fun _ => ?_) (fun _ => ?_) | refine WP.iteN (fun _ => ?_) (fun _ => ?_) | refine WP.iteB (fun _ => ?_) (fun _ => ?_)) | (with_reducible refine WP.ckI ?_ ?_; · omega) | (with_reducible refine WP.gn ?_ (fun _ _ => ?_); · omega) | (with_reducible refine WP.gt ?_ (fun _ _ => ?_); · omega) | with_reducible (first | refine WP.up ?_ | refine WP.letO ?_ | refine WP.ret ?_)))
      exact ⟨⟨by omega, insI_step iv hx h⟩, by dsimp only; omega⟩
    · refine WP.up ?_
      exact stop k hk (insI_at iv hk (.inr ⟨x, hx, h⟩))
  · unfold g_ref42_with_j3
    refine WP.iteF (WP.up ?_)
    exact stop k hk (insI_at iv hk (.inl (by omega)))
section
variable {t : Tab} {s : Sch} {i m : Nat} {out : List Pay} {x : Place} {K : ((List Pay) × Int) ⊕ ((List Pay) × Int) → Prop}
theorem rprizes_l5 {ns : List Int} (hns : ns.length = m) (hi : i + m ≤ t.l.length) (hl : t.l.length ≤ 1000) (ho : out.length ≤ i)
    (h : (insF out (share ((t.l.drop i).take m) ns)).length ≤ i + m → K (.inl (insF out (share ((t.l.drop i).take m) ns), ((i + m : Nat) : Int)))) : WP (loopO (g_ref42_Prizes_l5 m (ns, 0) ((i : Nat) : Int) t s) (out, 0)) K := by
  have hgl : ((t.l.drop i).take m).length = m := by simp; omega
  refine WP.loop (fun v => v.2 ≤ m ∧ v.1.length ≤ i + v.2 ∧ insF v.1 (share (((t.l.drop i).take m).drop v.2) (ns.drop v.2)) = insF out (share ((t.l.drop i).take m) ns)) (fun v => m - v.2) ?_ ⟨by simp, by simpa using ho, by simp⟩
  rintro ⟨o, j⟩ ⟨hj, hol, iv⟩
  dsimp only at hj hol iv ⊢
  simp only [g_ref42_Prizes_l5]
  refine WP.iteD (fun hlt => ?_) (fun hlt => ?_)
  · obtain ⟨n, hn⟩ : ∃ n, ns[j]? = some n := ⟨_, List.getElem?_eq_getElem (by omega)⟩
    obtain ⟨y, hy⟩ : ∃ y, t.l[i + j]? = some y := ⟨_, List.getElem?_eq_getElem (by omega)⟩
    have hg := in_group (m := m) hy (by omega)
    rw [gn_some hn]
    refine WP.iteD (fun hp => ?_) (fun hp => ?_)
    · rw [share_yes hg hn hp] at iv
      (first | with_reducible (first | refine WP.iteT ?_ | refine WP.iteF ?_ | refine WP.iteNb ?_ | refine WP.iteD (fun _ => ?_) (fun _ => ?_) | refine WP.iteE (fun _ => ?_) (fun _ => ?_) | refine WP.iteN (fun _ => ?_) (fun _ => ?_) | refine WP.iteB (fun _ => ?_) (fun _ => ?_)) | (with_reducible refine WP.ckI ?_ ?_; · omega) | (with_reducible refine WP.gn ?_ (fun _ _ => ?_); · omega) | (with_reducible refine WP.gt ?_ (fun _ _ => ?_); · omega) | with_reducible (first | refine WP.up ?_ | refine WP.letO ?_ | refine WP.ret ?_))
      rw [gt_some (x := y) (by rw [show (((i : Nat) : Int) + ((j : Nat) : Int)).toNat = i + j by omega]; exact hy) (by omega)]
      refine WP.bd (insert_eq (by omega)) ?_
      unfold g_ref42_Prizes_j6
      (repeat' (first | with_reducible (first | refine WP.iteT ?_ | refine WP.iteF ?_ | refine WP.iteNb ?_ | refine WP.iteD (fun _ => ?_) (fun _ => ?_) | refine WP.iteE (fun _ => ?_) (fun _ => ?_) | refine WP.iteN (fun _ => ?_) (fun _ => ?_) | refine WP.iteB (fun _ => ?_) (fun _ => ?_)) | (with_reducible refine WP.ckI ?_ ?_; · omega) | (with_reducible refine WP.gn ?_ (fun _ _ => ?_); · omega) | (with_reducible refine WP.gt ?_ (fun _ _ => ?_); · omega) | with_reducible (first | refine WP.up ?_ | refine WP.letO ?_ | refine WP.ret ?_)))
      exact ⟨⟨by dsimp only; omega, by dsimp only; rw [insP_length]; omega, iv⟩, by dsimp only; omega⟩
    · rw [share_no hg hn hp] at iv
      unfold g_ref42_Prizes_j6
      (repeat' (first | with_reducible (first | refine WP.iteT ?_ | refine WP.iteF ?_ | refine WP.iteNb ?_ | refine WP.iteD (fun _ => ?_) (fun _ => ?_) | refine WP.iteE (fun _ => ?_) (fun _ => ?_) | refine WP.iteN (fun _ => ?_) (fun _ => ?_) | refine WP.iteB (fun _ => ?_) (fun _ => ?_)) | (with_reducible refine WP.ckI ?_ ?_; · omega) | (with_reducible refine WP.gn ?_ (fun _ _ => ?_); · omega) | (with_reducible refine WP.gt ?_ (fun _ _ => ?_); · omega) | with_reducible (first | refine WP.up ?_ | refine WP.letO ?_ | refine WP.ret ?_)))
      exact ⟨⟨by dsimp only; omega, by dsimp only; omega, iv⟩, by dsimp only; omega⟩
  · rw [share_end (by omega)] at iv
    have hjm : j = m := by omega
    subst hjm
    unfold g_ref42_Prizes_j4
    (repeat' (first | with_reducible (first | refine WP.iteT ?_ | refine WP.iteF ?_ | refine WP.iteNb ?_ | refine WP.iteD (fun _ => ?_) (fun _ => ?_) | refine WP.iteE (fun _ => ?_) (fun _ => ?_) | refine WP.iteN (fun _ => ?_) (fun _ => ?_) | refine WP.iteB (fun _ => ?_) (fun _ => ?_)) | (with_reducible refine WP.ckI ?_ ?_; · omega) | (with_reducible refine WP.gn ?_ (fun _ _ => ?_); · omega) | (with_reducible refine WP.gt ?_ (fun _ _ => ?_); · omega) | with_reducible (first | refine WP.up ?_ | refine WP.letO ?_ | refine WP.ret ?_)))
    have e : o = insF out (share ((t.l.drop i).take j) ns) := iv
    rw [show ((i : Nat) : Int) + ((j : Nat) : Int) = ((i + j : Nat) : Int) by omega, e]
    exact h (by rw [← e]; exact hol)
end
theorem rprizes_eq {t : Tab} {s : Sch} (hl : t.l.length ≤ 1000) (hs : s.p.length ≤ 1000) : g_ref42_Prizes t s = some (if fitS t s = 0 then insAll (payU t s) else [], fitS t s) := by
  refine WP.eq ?_
  unfold g_ref42_Prizes
  refine WP.bd (checked_eq hl) ?_
  refine WP.iteN (fun h => ?_) (fun h => ?_)
  · rw [if_neg h]; exact WP.ret rfl
  rw [if_pos h, h]
  obtain ⟨hp, hsum, _⟩ := fit_prizes h
  have h24 := fit_ranges h
  refine WP.loop (fun v => ∃ i : Nat, v.2 = (i : Int) ∧ i ≤ t.l.length ∧ v.1.length ≤ i ∧ insF v.1 (payG ((partL s.p).drop i) (grp (t.l.drop i))) = insAll (payU t s)) (fun v => t.l.length - v.2.toNat) ?_ ⟨0, rfl, by omega, by simp, by simp [payU, insAll]⟩
  rintro ⟨out, i'⟩ ⟨i, rfl, hi, ho, iv⟩
  dsimp only at ho iv ⊢
  simp only [g_ref42_Prizes_l2]
  refine WP.iteD (fun hlt => ?_) (fun hlt => ?_)
  · obtain ⟨x, hx⟩ : ∃ x, t.l[i]? = some x := ⟨_, List.getElem?_eq_getElem (by omega)⟩
    have fin : ∀ (m : Nat) (n : Int), n = sumL 0 (((partL s.p).drop i).take m) → m = runLen x.k (t.l.drop i) ∧ 1 ≤ m → WP (g_ref42_Prizes_j3 ((i : Nat) : Int) t s out m n) (Rnd (fun v : List Pay × Int => ∃ i : Nat, v.2 = (i : Int) ∧ i ≤ t.l.length ∧ v.1.length ≤ i ∧ insF v.1 (payG ((partL s.p).drop i) (grp (t.l.drop i))) = insAll (payU t s)) (fun v => t.l.length - v.2.toNat) (t.l.length - (((i : Nat) : Int)).toNat) fun z => z = (insAll (payU t s), 0)) := by
      rintro m n hn ⟨hm, hm1⟩
      have hle : i + m ≤ t.l.length := by
        have := runLen_le x.k (t.l.drop i)
        rw [List.length_drop] at this; omega
      rw [pay_next hx hm hle, insF_append] at iv
      have hn0 : 0 ≤ n := by
        rw [hn]; exact sumL_nonneg fun y hy => partL_nonneg hp y (List.mem_of_mem_drop (List.mem_of_mem_take hy))
      have hn1 : n ≤ 1125899906842624 := by rw [hn]; exact part_total hp hsum i m
      unfold g_ref42_Prizes_j3
      refine WP.bd (ones_eq (by omega) (by omega)) ?_
      rw [show (((m : Nat) : Int)).toNat = m by omega]
      refine WP.bd (r := (eqL n m, 0)) ?_ ?_
      · unfold g_ref05_Split
        rw [if_pos (splitOK_ones hn0 hn1 hm1 (by omega))]; rfl
      refine rprizes_l5 (eqL_length _ _) hle hl ho fun hlen => ?_
      refine ⟨⟨i + m, rfl, hle, hlen, ?_⟩, by dsimp only; omega⟩
      rw [hn]; exact iv
    refine WP.loop (fun v => i + v.1 ≤ t.l.length ∧ v.2 = sumL 0 (((partL s.p).drop i).take v.1) ∧ runLen x.k (t.l.drop i) = v.1 + runLen x.k (t.l.drop (i + v.1))) (fun v => t.l.length - v.1) ?_ ⟨by dsimp only; omega, by simp [sumL], by simp⟩
    rintro ⟨m, n⟩ ⟨hm, hn, ir⟩
    dsimp only at hm hn ir ⊢
    simp only [g_ref42_Prizes_l7]
    (first | with_reducible (first | refine WP.iteT ?_ | refine WP.iteF ?_ | refine WP.iteNb ?_ | refine WP.iteD (fun _ => ?_) (fun _ => ?_) | refine WP.iteE (fun _ => ?_) (fun _ => ?_) | refine WP.iteN (fun _ => ?_) (fun _ => ?_) | refine WP.iteB (fun _ => ?_) (fun _ => ?_)) | (with_reducible refine WP.ckI ?_ ?_; · omega) | (with_reducible refine WP.gn ?_ (fun _ _ => ?_); · omega) | (with_reducible refine WP.gt ?_ (fun _ _ => ?_); · omega) | with_reducible (first | refine WP.up ?_ | refine WP.letO ?_ | refine WP.ret ?_))
    refine WP.iteD (fun hlt2 => ?_) (fun hlt2 => ?_)
    · obtain ⟨y, hy⟩ : ∃ y, t.l[i + m]? = some y := ⟨_, List.getElem?_eq_getElem (by omega)⟩
      rw [gt_some (x := y) (by rw [show (((i : Nat) : Int) + ((m : Nat) : Int)).toNat = i + m by omega]; exact hy) (by omega), gt_some (x := x) (by simpa using hx) (by omega)]
      by_cases he : y.k = x.k
      · rw [show (y.k == x.k) = true by simpa using he]
        unfold g_ref42_Prizes_j8
        (first | with_reducible (first | refine WP.iteT ?_ | refine WP.iteF ?_ | refine WP.iteNb ?_ | refine WP.iteD (fun _ => ?_) (fun _ => ?_) | refine WP.iteE (fun _ => ?_) (fun _ => ?_) | refine WP.iteN (fun _ => ?_) (fun _ => ?_) | refine WP.iteB (fun _ => ?_) (fun _ => ?_)) | (with_reducible refine WP.ckI ?_ ?_; · omega) | (with_reducible refine WP.gn ?_ (fun _ _ => ?_); · omega) | (with_reducible refine WP.gt ?_ (fun _ _ => ?_); · omega) | with_reducible (first | refine WP.up ?_ | refine WP.letO ?_ | refine WP.ret ?_)); (first | with_reducible (first | refine WP.iteT ?_ | refine WP.iteF ?_ | refine WP.iteNb ?_ | refine WP.iteD (fun _ => ?_) (fun _ => ?_) | refine WP.iteE (fun _ => ?_) (fun _ => ?_) | refine WP.iteN (fun _ => ?_) (fun _ => ?_) | refine WP.iteB (fun _ => ?_) (fun _ => ?_)) | (with_reducible refine WP.ckI ?_ ?_; · omega) | (with_reducible refine WP.gn ?_ (fun _ _ => ?_); · omega) | (with_reducible refine WP.gt ?_ (fun _ _ => ?_); · omega) | with_reducible (first | refine WP.up ?_ | refine WP.letO ?_ | refine WP.ret ?_)); (first | with_reducible (first | refine WP.iteT ?_ | refine WP.iteF ?_ | refine WP.iteNb ?_ | refine WP.iteD (fun _ => ?_) (fun _ => ?_) | refine WP.iteE (fun _ => ?_) (fun _ => ?_) | refine WP.iteN (fun _ => ?_) (fun _ => ?_) | refine WP.iteB (fun _ => ?_) (fun _ => ?_)) | (with_reducible refine WP.ckI ?_ ?_; · omega) | (with_reducible refine WP.gn ?_ (fun _ _ => ?_); · omega) | (with_reducible refine WP.gt ?_ (fun _ _ => ?_); · omega) | with_reducible (first | refine WP.up ?_ | refine WP.letO ?_ | refine WP.ret ?_))
        refine WP.bd (rpart_eq hp hs (by omega) (by omega)) ?_
        rw [show ((i : Nat) : Int) + ((m : Nat) : Int) + 1 = ((i + m + 1 : Nat) : Int) by omega]
        have e := part_sum (ps := s.p) (i := i) (m := m) hn (by omega)
        have h1 : 0 ≤ sumL 0 (((partL s.p).drop i).take (m + 1)) := sumL_nonneg fun y hy => partL_nonneg hp y (List.mem_of_mem_drop (List.mem_of_mem_take hy))
        have h2 := part_total hp hsum i (m + 1)
        rw [← e] at h1 h2
        (repeat' (first | with_reducible (first | refine WP.iteT ?_ | refine WP.iteF ?_ | refine WP.iteNb ?_ | refine WP.iteD (fun _ => ?_) (fun _ => ?_) | refine WP.iteE (fun _ => ?_) (fun _ => ?_) | refine WP.iteN (fun _ => ?_) (fun _ => ?_) | refine WP.iteB (fun _ => ?_) (fun _ => ?_)) | (with_reducible refine WP.ckI ?_ ?_; · omega) | (with_reducible refine WP.gn ?_ (fun _ _ => ?_); · omega) | (with_reducible refine WP.gt ?_ (fun _ _ => ?_); · omega) | with_reducible (first | refine WP.up ?_ | refine WP.letO ?_ | refine WP.ret ?_)))
        exact ⟨⟨by dsimp only; omega, e, run_step ir hy he⟩, by dsimp only; omega⟩
      · rw [show (y.k == x.k) = false by simpa using he]
        unfold g_ref42_Prizes_j8
        refine WP.iteF (WP.up ?_)
        exact fin m n hn (run_endB ir hx hy he)
    · unfold g_ref42_Prizes_j8
      refine WP.iteF (WP.up ?_)
      exact fin m n hn (run_endA ir (by omega) (by omega))
  · rw [pay_end (by omega)] at iv
    unfold g_ref42_Prizes_j1
    (repeat' (first | with_reducible (first | refine WP.iteT ?_ | refine WP.iteF ?_ | refine WP.iteNb ?_ | refine WP.iteD (fun _ => ?_) (fun _ => ?_) | refine WP.iteE (fun _ => ?_) (fun _ => ?_) | refine WP.iteN (fun _ => ?_) (fun _ => ?_) | refine WP.iteB (fun _ => ?_) (fun _ => ?_)) | (with_reducible refine WP.ckI ?_ ?_; · omega) | (with_reducible refine WP.gn ?_ (fun _ _ => ?_); · omega) | (with_reducible refine WP.gt ?_ (fun _ _ => ?_); · omega) | with_reducible (first | refine WP.up ?_ | refine WP.letO ?_ | refine WP.ret ?_)))
    rw [← iv]; rfl
end Go.Proofs.YtoiiblkncbnlaaaGreat

/-
  Chapter 42: which clubs rise and fall; the table and the scheme of a league. Conditions: those of each theorem.
-/
set_option linter.unusedVariables false
set_option linter.unusedSimpArgs false
namespace Go.Proofs.YtoiiblkncbnlaaaGreat
open Go.DL
set_option maxHeartbeats 4000000
theorem clubs_eq {l : List Place} (hl : l.length ≤ 1000) : g_prizes_clubs l = some (clubsL l) := by
  refine WP.eq ?_
  unfold g_prizes_clubs
  refine WP.loop (fun v => v.1 ≤ l.length ∧ v.2 = (l.take v.1).map clubOf) (fun v => l.length - v.1) ?_ ⟨by simp, by simp⟩
  rintro ⟨k, o⟩ ⟨hk, iv⟩
  dsimp only at hk iv ⊢
  have ho : o.length = k := by rw [iv]; simp; omega
  simp only [g_prizes_clubs_l2]
  refine WP.iteD (fun hlt => ?_) (fun hlt => ?_)
  · obtain ⟨x, hx⟩ : ∃ x, l[k]? = some x := ⟨_, List.getElem?_eq_getElem (by omega)⟩
    rw [gn_some hx]
    refine WP.ck (by simp only [List.length_cons, List.length_nil]; omega) ?_
    (repeat' (first | with_reducible (first | refine WP.iteT ?_ | refine WP.iteF ?_ | refine WP.iteNb ?_ | refine WP.iteD (fun _ => ?_) (fun _ => ?_) | refine WP.iteE (fun _ => ?_) (fun _ => ?_) | refine WP.iteN (fun _ => ?_) (fun _ => ?_) | refine WP.iteB (fun _ => ?_) (fun _ => ?_)) | (with_reducible refine WP.ckI ?_ ?_; · omega) | (with_reducible refine WP.gn ?_ (fun _ _ => ?_); · omega) | (with_reducible refine WP.gt ?_ (fun _ _ => ?_); · omega) | with_reducible (first | refine WP.up ?_ | refine WP.letO ?_ | refine WP.ret ?_)))
    exact ⟨⟨by dsimp only; omega, by dsimp only; rw [take_snoc hx, List.map_append, iv]; rfl⟩, by dsimp only; omega⟩
  · unfold g_prizes_clubs_j1
    (first | with_reducible (first | refine WP.iteT ?_ | refine WP.iteF ?_ | refine WP.iteNb ?_ | refine WP.iteD (fun _ => ?_) (fun _ => ?_) | refine WP.iteE (fun _ => ?_) (fun _ => ?_) | refine WP.iteN (fun _ => ?_) (fun _ => ?_) | refine WP.iteB (fun _ => ?_) (fun _ => ?_)) | (with_reducible refine WP.ckI ?_ ?_; · omega) | (with_reducible refine WP.gn ?_ (fun _ _ => ?_); · omega) | (with_reducible refine WP.gt ?_ (fun _ _ => ?_); · omega) | with_reducible (first | refine WP.up ?_ | refine WP.letO ?_ | refine WP.ret ?_))
    refine WP.ck (by omega) (WP.ret ?_)
    rw [iv, List.take_of_length_le (by omega)]; rfl
theorem moves_eq {t : Tab} {s : Sch} (hl : t.l.length ≤ 1000) (hs : s.p.length ≤ 1000) : g_prizes_Moves t s = some (upM t s, downM t s, movE t s) := by
  refine WP.eq ?_
  unfold g_prizes_Moves
  refine WP.bd (fits_eq hl hs) ?_
  refine WP.iteN (fun h => ?_) (fun h => ?_)
  · have e := movE_bad h
    rw [upM_nil (by rw [e]; exact h), downM_nil (by rw [e]; exact h), e]; exact WP.ret rfl
  have hr := fit_ranges h
  refine WP.ckI (by omega) ?_
  refine WP.iteD (fun h2 => ?_) (fun h2 => ?_)
  · have e := movE_420 h h2
    rw [upM_nil (by omega), downM_nil (by omega), e]; exact WP.ret rfl
  · have e := movE_ok h h2
    rw [upM_ok e, downM_ok e, e]
    refine WP.sb (by simp; omega) ?_
    have e1 : subList t.l none (some s.u) = t.l.take s.u.toNat := by simp [subList]
    rw [e1]
    refine WP.bd (clubs_eq (by simp; omega)) ?_
    refine WP.ckI (by omega) ?_
    refine WP.sb (by simp; omega) ?_
    have e2 : subList t.l (some (((t.l.length : Nat) : Int) - s.d)) none = t.l.drop (t.l.length - s.d.toNat) := by simp [subList]; congr 1; omega
    rw [e2]
    refine WP.bd (clubs_eq (by simp; omega)) ?_
    exact WP.ret rfl
theorem rmoves_eq {t : Tab} {s : Sch} (hl : t.l.length ≤ 1000) : g_ref42_Moves t s = some (upM t s, downM t s, movE t s) := by
  refine WP.eq ?_
  unfold g_ref42_Moves
  refine WP.bd (checked_eq hl) ?_
  refine WP.iteN (fun h => ?_) (fun h => ?_)
  · have e := movE_bad h
    rw [upM_nil (by rw [e]; exact h), downM_nil (by rw [e]; exact h), e]; exact WP.ret rfl
  have hr := fit_ranges h
  refine WP.ckI (by omega) ?_
  refine WP.iteD (fun h2 => ?_) (fun h2 => ?_)
  · have e := movE_420 h h2
    rw [upM_nil (by omega), downM_nil (by omega), e]; exact WP.ret rfl
  · have e := movE_ok h h2
    rw [upM_ok e, downM_ok e, e]
    refine WP.loop (fun v => v.2.2 ≤ t.l.length ∧ v.1 = insAllI ((t.l.take (min v.2.2 s.u.toNat)).map clubOf) ∧ v.2.1 = insAllI (((t.l.take v.2.2).drop (t.l.length - s.d.toNat)).map clubOf)) (fun v => t.l.length - v.2.2) ?_ ⟨by simp, by simp [insAllI], by simp [insAllI]⟩
    rintro ⟨a, b, k⟩ ⟨hk, ia, ib⟩
    dsimp only at hk ia ib ⊢
    have hal : a.length ≤ 1000 := by rw [ia, insAllI_length]; simp; omega
    have hbl : b.length ≤ 1000 := by rw [ib, insAllI_length]; simp; omega
    simp only [g_ref42_Moves_l2]
    refine WP.iteD (fun hlt => ?_) (fun hlt => ?_)
    · obtain ⟨x, hx⟩ : ∃ x, t.l[k]? = some x := ⟨_, List.getElem?_eq_getElem (by omega)⟩
      have j4 : ∀ a', a' = insAllI ((t.l.take (min (k + 1) s.u.toNat)).map clubOf) → WP (g_ref42_Moves_j4 t s k b a') (Rnd (fun v : List Int × List Int × Nat => v.2.2 ≤ t.l.length ∧ v.1 = insAllI ((t.l.take (min v.2.2 s.u.toNat)).map clubOf) ∧ v.2.1 = insAllI (((t.l.take v.2.2).drop (t.l.length - s.d.toNat)).map clubOf)) (fun v => t.l.length - v.2.2) (t.l.length - k) fun z => z = (clubsL (t.l.take s.u.toNat), clubsL (t.l.drop (t.l.length - s.d.toNat)), 0)) := fun a' ha' => by
        unfold g_ref42_Moves_j4
        refine WP.ckI (by omega) ?_
        refine WP.iteD (fun h3 => ?_) (fun h3 => ?_)
        · rw [gn_some hx]
          refine WP.bd (with_eq hbl) ?_
          unfold g_ref42_Moves_j3
          (repeat' (first | with_reducible (first | refine WP.iteT ?_ | refine WP.iteF ?_ | refine WP.iteNb ?_ | refine WP.iteD (fun _ => ?_) (fun _ => ?_) | refine WP.iteE (fun _ => ?_) (fun _ => ?_) | refine WP.iteN (fun _ => ?_) (fun _ => ?_) | refine WP.iteB (fun _ => ?_) (fun _ => ?_)) | (with_reducible refine WP.ckI ?_ ?_; · omega) | (with_reducible refine WP.gn ?_ (fun _ _ => ?_); · omega) | (with_reducible refine WP.gt ?_ (fun _ _ => ?_); · omega) | with_reducible (first | refine WP.up ?_ | refine WP.letO ?_ | refine WP.ret ?_)))
          exact ⟨⟨by dsimp only; omega, ha', dn_yes ib hx (by omega)⟩, by dsimp only; omega⟩
        · unfold g_ref42_Moves_j3
          (repeat' (first | with_reducible (first | refine WP.iteT ?_ | refine WP.iteF ?_ | refine WP.iteNb ?_ | refine WP.iteD (fun _ => ?_) (fun _ => ?_) | refine WP.iteE (fun _ => ?_) (fun _ => ?_) | refine WP.iteN (fun _ => ?_) (fun _ => ?_) | refine WP.iteB (fun _ => ?_) (fun _ => ?_)) | (with_reducible refine WP.ckI ?_ ?_; · omega) | (with_reducible refine WP.gn ?_ (fun _ _ => ?_); · omega) | (with_reducible refine WP.gt ?_ (fun _ _ => ?_); · omega) | with_reducible (first | refine WP.up ?_ | refine WP.letO ?_ | refine WP.ret ?_)))
          exact ⟨⟨by dsimp only; omega, ha', dn_no ib (by omega)⟩, by dsimp only; omega⟩
      refine WP.iteD (fun h3 => ?_) (fun h3 => ?_)
      · rw [gn_some hx]
        refine WP.bd (with_eq hal) ?_
        exact j4 _ (up_yes ia hx (by omega))
      · exact j4 _ (up_no ia (by omega))
    · unfold g_ref42_Moves_j1
      (repeat' (first | with_reducible (first | refine WP.iteT ?_ | refine WP.iteF ?_ | refine WP.iteNb ?_ | refine WP.iteD (fun _ => ?_) (fun _ => ?_) | refine WP.iteE (fun _ => ?_) (fun _ => ?_) | refine WP.iteN (fun _ => ?_) (fun _ => ?_) | refine WP.iteB (fun _ => ?_) (fun _ => ?_)) | (with_reducible refine WP.ckI ?_ ?_; · omega) | (with_reducible refine WP.gn ?_ (fun _ _ => ?_); · omega) | (with_reducible refine WP.gt ?_ (fun _ _ => ?_); · omega) | with_reducible (first | refine WP.up ?_ | refine WP.letO ?_ | refine WP.ret ?_)))
      rw [ia, ib, insAllI_eq, insAllI_eq, Nat.min_eq_right (by omega), List.take_of_length_le (by omega : t.l.length ≤ k)]; rfl
theorem of_eq {ts : List Tab} {ss : List Sch} {c : Int} (h1 : ts.length ≤ 1000) (h2 : ss.length ≤ 1000) : g_prizes_of ts ss c = some (⟨ofT ts ss c, ofS ts ss c⟩, ofB ts ss c) := by
  have hj2 : g_prizes_of_j2 (idxT c ts 0) ts ss (idxS c ss 0) = some (⟨ofT ts ss c, ofS ts ss c⟩, ofB ts ss c) := by
    refine WP.eq ?_
    unfold g_prizes_of_j2
    have no : ofB ts ss c = false → WP (g_prizes_of_j3 ts (idxT c ts 0) ss (idxS c ss 0) true) (fun z => z = (⟨ofT ts ss c, ofS ts ss c⟩, ofB ts ss c)) := fun h => by
      unfold g_prizes_of_j3
      (repeat' (first | with_reducible (first | refine WP.iteT ?_ | refine WP.iteF ?_ | refine WP.iteNb ?_ | refine WP.iteD (fun _ => ?_) (fun _ => ?_) | refine WP.iteE (fun _ => ?_) (fun _ => ?_) | refine WP.iteN (fun _ => ?_) (fun _ => ?_) | refine WP.iteB (fun _ => ?_) (fun _ => ?_)) | (with_reducible refine WP.ckI ?_ ?_; · omega) | (with_reducible refine WP.gn ?_ (fun _ _ => ?_); · omega) | (with_reducible refine WP.gt ?_ (fun _ _ => ?_); · omega) | with_reducible (first | refine WP.up ?_ | refine WP.letO ?_ | refine WP.ret ?_)))
      rw [h, ofT_no h, ofS_no h]; rfl
    refine WP.iteD (fun h => ?_) (fun h => ?_)
    · exact no (ofB_no (.inl h))
    · by_cases h3 : idxS c ss 0 < 0
      · rw [decide_eq_true h3]; exact no (ofB_no (.inr h3))
      · rw [decide_eq_false h3]
        have hb := ofB_yes (ts := ts) (ss := ss) (c := c) (by omega) (by omega)
        have r1 := idxT_range c ts 0
        have r2 := idxS_range c ss 0
        unfold g_prizes_of_j3
        refine WP.iteF ?_
        refine WP.gt (by omega) fun x hx => ?_
        refine WP.gt (by omega) fun y hy => ?_
        refine WP.ret ?_
        rw [hb, ofT_yes hb hx, ofS_yes hb hy]
  have hj1 : g_prizes_of_j1 ss c ts (idxT c ts 0) = some (⟨ofT ts ss c, ofS ts ss c⟩, ofB ts ss c) := by
    refine WP.eq ?_
    unfold g_prizes_of_j1
    refine WP.loop (fun k => k ≤ ss.length ∧ idxS c (ss.drop k) k = idxS c ss 0) (fun k => ss.length - k) ?_ ⟨by omega, rfl⟩
    rintro k ⟨hk, iv⟩
    simp only [g_prizes_of_l5]
    refine WP.iteD (fun hlt => ?_) (fun hlt => ?_)
    · obtain ⟨x, hx⟩ : ∃ x, ss[k]? = some x := ⟨_, List.getElem?_eq_getElem (by omega)⟩
      rw [gn_some hx]
      refine WP.iteE (fun he => ?_) (fun he => ?_)
      · rw [idxS_here hx he] at iv
        refine WP.up ?_
        rw [iv]
        exact WP.of hj2 rfl
      · rw [idxS_skip hx he] at iv
        (repeat' (first | with_reducible (first | refine WP.iteT ?_ | refine WP.iteF ?_ | refine WP.iteNb ?_ | refine WP.iteD (fun _ => ?_) (fun _ => ?_) | refine WP.iteE (fun _ => ?_) (fun _ => ?_) | refine WP.iteN (fun _ => ?_) (fun _ => ?_) | refine WP.iteB (fun _ => ?_) (fun _ => ?_)) | (with_reducible refine WP.ckI ?_ ?_; · omega) | (with_reducible refine WP.gn ?_ (fun _ _ => ?_); · omega) | (with_reducible refine WP.gt ?_ (fun _ _ => ?_); · omega) | with_reducible (first | refine WP.up ?_ | refine WP.letO ?_ | refine WP.ret ?_)))
        exact ⟨⟨by omega, iv⟩, by dsimp only; omega⟩
    · rw [idxS_end (by omega)] at iv
      unfold g_prizes_of_j4
      refine WP.up ?_
      rw [iv]
      exact WP.of hj2 rfl
  refine WP.eq ?_
  unfold g_prizes_of
  refine WP.loop (fun k => k ≤ ts.length ∧ idxT c (ts.drop k) k = idxT c ts 0) (fun k => ts.length - k) ?_ ⟨by omega, rfl⟩
  rintro k ⟨hk, iv⟩
  simp only [g_prizes_of_l7]
  refine WP.iteD (fun hlt => ?_) (fun hlt => ?_)
  · obtain ⟨x, hx⟩ : ∃ x, ts[k]? = some x := ⟨_, List.getElem?_eq_getElem (by omega)⟩
    rw [gn_some hx]
    refine WP.iteE (fun he => ?_) (fun he => ?_)
    · rw [idxT_here hx he] at iv
      refine WP.up ?_
      rw [iv]
      exact WP.of hj1 rfl
    · rw [idxT_skip hx he] at iv
      (repeat' (first | with_reducible (first | refine WP.iteT ?_ | refine WP.iteF ?_ | refine WP.iteNb ?_ | refine WP.iteD (fun _ => ?_) (fun _ => ?_) | refine WP.iteE (fun _ => ?_) (fun _ => ?_) | refine WP.iteN (fun _ => ?_) (fun _ => ?_) | refine WP.iteB (fun _ => ?_) (fun _ => ?_)) | (with_reducible refine WP.ckI ?_ ?_; · omega) | (with_reducible refine WP.gn ?_ (fun _ _ => ?_); · omega) | (with_reducible refine WP.gt ?_ (fun _ _ => ?_); · omega) | with_reducible (first | refine WP.up ?_ | refine WP.letO ?_ | refine WP.ret ?_)))
      exact ⟨⟨by omega, iv⟩, by dsimp only; omega⟩
  · rw [idxT_end (by omega)] at iv
    unfold g_prizes_of_j6
    refine WP.up ?_
    rw [iv]
    exact WP.of hj1 rfl
end Go.Proofs.YtoiiblkncbnlaaaGreat

/-
  Chapter 42: the clubs of the next season as the reference computes them. Conditions: those of each theorem.
-/
set_option linter.unusedVariables false
set_option linter.unusedSimpArgs false
namespace Go.Proofs.YtoiiblkncbnlaaaGreat
open Go.DL
set_option maxHeartbeats 4000000
theorem index_eq {l : List Int} {n : Int} (hl : l.length ≤ 1000) : WP (g_slices_Index_Lint_int l n) (fun r => decide (r ≥ 0) = l.contains n) := by
  unfold g_slices_Index_Lint_int
  refine WP.loop (fun k => k ≤ l.length ∧ (l.drop k).contains n = l.contains n) (fun k => l.length - k) ?_ ⟨by omega, rfl⟩
  rintro k ⟨hk, iv⟩
  simp only [g_slices_Index_Lint_int_l2]
  refine WP.iteD (fun hlt => ?_) (fun hlt => ?_)
  · obtain ⟨x, hx⟩ : ∃ x, l[k]? = some x := ⟨_, List.getElem?_eq_getElem (by omega)⟩
    rw [gn_some hx]
    refine WP.iteE (fun he => ?_) (fun he => ?_)
    · (repeat' (first | with_reducible (first | refine WP.iteT ?_ | refine WP.iteF ?_ | refine WP.iteNb ?_ | refine WP.iteD (fun _ => ?_) (fun _ => ?_) | refine WP.iteE (fun _ => ?_) (fun _ => ?_) | refine WP.iteN (fun _ => ?_) (fun _ => ?_) | refine WP.iteB (fun _ => ?_) (fun _ => ?_)) | (with_reducible refine WP.ckI ?_ ?_; · omega) | (with_reducible refine WP.gn ?_ (fun _ _ => ?_); · omega) | (with_reducible refine WP.gt ?_ (fun _ _ => ?_); · omega) | with_reducible (first | refine WP.up ?_ | refine WP.letO ?_ | refine WP.ret ?_)))
      show decide (((k : Nat) : Int) ≥ 0) = _
      rw [has_here iv hx he.symm]; exact decide_eq_true (by omega)
    · (repeat' (first | with_reducible (first | refine WP.iteT ?_ | refine WP.iteF ?_ | refine WP.iteNb ?_ | refine WP.iteD (fun _ => ?_) (fun _ => ?_) | refine WP.iteE (fun _ => ?_) (fun _ => ?_) | refine WP.iteN (fun _ => ?_) (fun _ => ?_) | refine WP.iteB (fun _ => ?_) (fun _ => ?_)) | (with_reducible refine WP.ckI ?_ ?_; · omega) | (with_reducible refine WP.gn ?_ (fun _ _ => ?_); · omega) | (with_reducible refine WP.gt ?_ (fun _ _ => ?_); · omega) | with_reducible (first | refine WP.up ?_ | refine WP.letO ?_ | refine WP.ret ?_)))
      exact ⟨⟨by omega, has_skip iv hx fun e => he e.symm⟩, by dsimp only; omega⟩
  · unfold g_slices_Index_Lint_int_j1
    (repeat' (first | with_reducible (first | refine WP.iteT ?_ | refine WP.iteF ?_ | refine WP.iteNb ?_ | refine WP.iteD (fun _ => ?_) (fun _ => ?_) | refine WP.iteE (fun _ => ?_) (fun _ => ?_) | refine WP.iteN (fun _ => ?_) (fun _ => ?_) | refine WP.iteB (fun _ => ?_) (fun _ => ?_)) | (with_reducible refine WP.ckI ?_ ?_; · omega) | (with_reducible refine WP.gn ?_ (fun _ _ => ?_); · omega) | (with_reducible refine WP.gt ?_ (fun _ _ => ?_); · omega) | with_reducible (first | refine WP.up ?_ | refine WP.letO ?_ | refine WP.ret ?_)))
    show decide ((-1 : Int) ≥ 0) = _
    rw [has_end iv (by omega)]; rfl
theorem contains_eq {l : List Int} {n : Int} (hl : l.length ≤ 1000) : g_slices_Contains_Lint_int l n = some (l.contains n) := by
  refine WP.eq ?_
  unfold g_slices_Contains_Lint_int
  refine WP.bdW ((index_eq (n := n) hl).mono fun r hr => ?_)
  exact WP.ret hr
theorem comeL_len {ts : List Tab} {ss : List Sch} {c : Int} (h : ∀ t ∈ ts, t.l.length ≤ 30) : (comeL ts ss c).length ≤ 90 := by
  have h1 := ofT_len (ss := ss) h c
  have h2 : (aboveL ts ss (ofS ts ss c).ab).length ≤ 30 := by
    unfold aboveL; split
    · simp
    · have := downM_length (ofT ts ss (ofS ts ss c).ab) (ofS ts ss (ofS ts ss c).ab); have := ofT_len (ss := ss) h (ofS ts ss c).ab; omega
  have h3 : (belowL ts ss (ofS ts ss c).be).length ≤ 30 := by
    unfold belowL; split
    · simp
    · have := upM_length (ofT ts ss (ofS ts ss c).be) (ofS ts ss (ofS ts ss c).be); have := ofT_len (ss := ss) h (ofS ts ss c).be; omega
  have h4 : (restL (ofT ts ss c) (ofS ts ss c)).length ≤ 30 := by
    have := List.length_filter_le (stays (ofT ts ss c) (ofS ts ss c)) ((ofT ts ss c).l.map clubOf)
    unfold restL; simp at this ⊢; omega
  simp only [comeL, List.length_append]; omega
section
variable {ts : List Tab} {ss : List Sch} {c : Int}
end
end Go.Proofs.YtoiiblkncbnlaaaGreat

/-
  Chapter 42: the clubs of the next season as the program computes them. Conditions: those of each theorem.
-/
set_option linter.unusedVariables false
set_option linter.unusedSimpArgs false
namespace Go.Proofs.YtoiiblkncbnlaaaGreat
open Go.DL
set_option maxHeartbeats 4000000
/-! ### sets of numbers -/
def setL (l : List Int) : List Int := l.foldl sput []
theorem setL_snoc (l : List Int) (n : Int) : setL (l ++ [n]) = sput (setL l) n := by simp [setL]
theorem setF_facts (l : List Int) : ∀ o : List Int, o.Pairwise (· < ·) → (l.foldl sput o).Pairwise (· < ·) ∧ (∀ x, x ∈ l.foldl sput o ↔ x ∈ o ∨ x ∈ l) ∧ (l.foldl sput o).length ≤ o.length + l.length ∧ ((l.foldl sput o).length = o.length + l.length ↔ l.Nodup ∧ ∀ x ∈ l, x ∉ o) := by
  induction l with
  | nil => intro o h; exact ⟨h, by simp, by simp, by simp⟩
  | cons a l ih =>
    intro o h
    obtain ⟨h1, h2, h3, h4⟩ := ih (sput o a) (sput_sorted h)
    have h5 := sput_le a o
    refine ⟨h1, fun x => ?_, by simp only [List.foldl_cons, List.length_cons]; omega, ?_⟩
    · simp only [List.foldl_cons]
      rw [h2, mem_sput, List.mem_cons]
      constructor
      · rintro ((rfl | h) | h)
        · exact .inr (.inl rfl)
        · exact .inl h
        · exact .inr (.inr h)
      · rintro (h | rfl | h)
        · exact .inl (.inr h)
        · exact .inl (.inl rfl)
        · exact .inr h
    · simp only [List.foldl_cons, List.length_cons]
      rw [List.nodup_cons]
      by_cases ha : a ∈ o
      · rw [sput_old h ha] at h3 h4
        constructor
        · intro h6; omega
        · rintro ⟨_, h7⟩; exact absurd ha (h7 a (by simp))
      · have hn := sput_new ha
        rw [hn] at h4
        constructor
        · intro h6
          obtain ⟨h7, h8⟩ := h4.1 (by omega)
          refine ⟨⟨fun hc => h8 a hc (mem_sput.2 (.inl rfl)), h7⟩, fun x hx => ?_⟩
          rcases List.mem_cons.1 hx with rfl | hx
          · exact ha
          · exact fun hxo => h8 x hx (mem_sput.2 (.inr hxo))
        · rintro ⟨⟨h6, h7⟩, h8⟩
          have := h4.2 ⟨h7, fun x hx hxo => by
            rcases mem_sput.1 hxo with rfl | h9
            · exact h6 hx
            · exact h8 x (by simp [hx]) h9⟩
          omega
theorem setL_facts (l : List Int) : (setL l).Pairwise (· < ·) ∧ (∀ x, x ∈ setL l ↔ x ∈ l) ∧ (setL l).length ≤ l.length ∧ ((setL l).length = l.length ↔ l.Nodup) := by
  obtain ⟨h1, h2, h3, h4⟩ := setF_facts l [] List.Pairwise.nil
  unfold setL
  exact ⟨h1, by simpa using h2, by simpa using h3, by simpa using h4⟩
theorem srtI_sorted (l : List Int) : (srtI l).Pairwise (· ≤ ·) :=
  (List.pairwise_mergeSort (le := fun x y => decide (x ≤ y)) (fun a b c h1 h2 => by simp at *; omega) (fun a b => by simp; omega) l).imp fun h => by simpa using h
theorem sorted_uniq {l d : List Int} (h1 : l.Pairwise (· ≤ ·)) (h2 : d.Pairwise (· ≤ ·)) (h : l.Perm d) : l = d :=
  h.eq_of_pairwise (fun a b _ _ h1 h2 => by omega) h1 h2
theorem setL_srtI {l : List Int} (h : l.Nodup) : setL l = srtI l := by
  obtain ⟨h1, h2, h3, h4⟩ := setL_facts l
  refine sorted_uniq (h1.imp fun h => by omega) (srtI_sorted l) ?_
  refine List.Perm.trans ?_ (srtI_perm l).symm
  refine (List.perm_ext_iff_of_nodup (h1.imp fun h => by omega) h).2 h2
theorem srtI_congr {l d : List Int} (h : l.Perm d) : srtI l = srtI d :=
  sorted_uniq (srtI_sorted l) (srtI_sorted d) ((srtI_perm l).trans (h.trans (srtI_perm d).symm))
/-! ### the range of clubs -/
theorem plOK_row : ∀ (l : List Place) (k : Nat) (q : Place) (seen : List Int), plOK k q seen l = true → ∀ p ∈ l, rowOK p.r = true
  | [], _, _, _, _ => by simp
  | p :: l, k, q, seen, h => by
    rw [plOK] at h
    split at h
    · rename_i hp
      intro x hx
      rcases List.mem_cons.1 hx with rfl | hx
      · exact hp.2.2.1
      · exact plOK_row l (k + 1) p _ h x hx
    · cases h
theorem chk_range {t : Tab} (h : chkT t = 0) : ∀ x ∈ t.l.map clubOf, 0 ≤ x ∧ x ≤ 191 := by
  rcases chkT_cases t with h1 | ⟨_, _, h1⟩
  · omega
  · intro x hx
    obtain ⟨p, hp, rfl⟩ := List.mem_map.1 hx
    exact rowOK_c (plOK_row _ _ _ _ h1 p hp)
theorem movE_chk {t : Tab} {s : Sch} (h : movE t s = 0) : fitS t s = 0 ∧ chkT t = 0 := by
  have : fitS t s = 0 := by
    by_cases h1 : fitS t s = 0
    · exact h1
    · rw [movE_bad h1] at h; exact absurd h h1
  exact ⟨this, (fitS_ok this).1⟩
theorem upM_sub {t : Tab} {s : Sch} (h : movE t s = 0) : ∀ x ∈ upM t s, x ∈ t.l.map clubOf := by
  intro x hx
  rw [upM_ok h, clubsL] at hx
  have := (srtI_perm _).mem_iff.1 hx
  rw [List.map_take] at this
  exact List.mem_of_mem_take this
theorem downM_sub {t : Tab} {s : Sch} (h : movE t s = 0) : ∀ x ∈ downM t s, x ∈ t.l.map clubOf := by
  intro x hx
  rw [downM_ok h, clubsL] at hx
  have := (srtI_perm _).mem_iff.1 hx
  rw [List.map_drop] at this
  exact List.mem_of_mem_drop this
section
variable {ts : List Tab} {ss : List Sch} {c : Int}
theorem next_j5 {l : List Int} (hpre : preE ts ss c = 0) (hl : l.Perm (comeL ts ss c)) (hlen : l.length ≤ 1000) : WP (g_prizes_Next_j5 l.length (setL l)) (fun z => z = (nextL ts ss c, nextE ts ss c)) := by
  obtain ⟨h1, h2, h3, h4⟩ := setL_facts l
  have hn : l.Nodup ↔ (comeL ts ss c).Nodup := hl.nodup_iff
  have hll := hl.length_eq
  have j6 : ∀ b, (b = true ↔ ¬ (l.Nodup ∧ 2 ≤ l.length ∧ l.length ≤ 24)) → WP (g_prizes_Next_j6 (setL l) b) (fun z => z = (nextL ts ss c, nextE ts ss c)) := fun b hb => by
    unfold g_prizes_Next_j6
    cases b
    · have hg : l.Nodup ∧ 2 ≤ l.length ∧ l.length ≤ 24 := by
        by_cases h : l.Nodup ∧ 2 ≤ l.length ∧ l.length ≤ 24
        · exact h
        · cases hb.2 h
      have e : nextE ts ss c = 0 := nextE_0 hpre ⟨hn.1 hg.1, by omega, by omega⟩
      refine WP.iteF (WP.ck h1 (WP.ck (by omega) (WP.ret ?_)))
      rw [nextL_ok e, e, setL_srtI hg.1, srtI_congr hl]
    · have hg := hb.1 rfl
      refine WP.iteT (WP.ret ?_)
      have e : nextE ts ss c = 190 := nextE_190 hpre (by rw [← hn, ← hll]; exact hg)
      rw [nextL_nil e (by omega), e]
  unfold g_prizes_Next_j5
  refine WP.iteN (fun h => ?_) (fun h => ?_)
  · refine j6 _ ?_
    simp only [true_iff]
    intro hg; exact h (by have := h4.2 hg.1; omega)
  have hnd := h4.1 (by omega)
  refine WP.iteD (fun h5 => ?_) (fun h5 => ?_)
  · refine j6 _ ?_
    simp only [true_iff]; omega
  · refine j6 _ ?_
    rw [decide_eq_true_eq]
    constructor
    · omega
    · intro hg
      by_cases h6 : l.length ≤ 24
      · exact absurd ⟨hnd, by omega, h6⟩ hg
      · omega
/-- What the clubs of one list leave: they are counted and put into the set. -/
theorem next_j4 {pre l : List Int} {n : Nat} (hpre : preE ts ss c = 0) (hn : n ≤ l.length) (hr : ∀ x ∈ l.take n, 0 ≤ x ∧ x ≤ 191) (hl : (pre ++ l.take n).Perm (comeL ts ss c)) (hlen : pre.length + n ≤ 1000) :
    WP (g_prizes_Next_j4 pre.length (setL pre) 0 n l) (fun z => z = (nextL ts ss c, nextE ts ss c)) := by
  have hin : (l.take n).length = n := by simp; omega
  unfold g_prizes_Next_j4
  refine WP.loop (fun v => v.1 ≤ n ∧ v.2.1 = (pre ++ (l.take n).take v.1).length ∧ v.2.2 = setL (pre ++ (l.take n).take v.1)) (fun v => n - v.1) ?_ ⟨by simp, by simp, by simp⟩
  rintro ⟨k, m, o⟩ ⟨hk, im, io⟩
  dsimp only at hk im io ⊢
  have hm : m = pre.length + k := by rw [im, List.length_append, List.length_take, hin]; omega
  simp only [g_prizes_Next_l7]
  refine WP.iteD (fun hlt => ?_) (fun hlt => ?_)
  · refine WP.ck (by omega) ?_
    obtain ⟨x, hx⟩ : ∃ x, (l.take n)[k]? = some x := ⟨_, List.getElem?_eq_getElem (by omega)⟩
    have hx2 : l[0 + k]? = some x := by rw [List.getElem?_take_of_lt (by omega)] at hx; rw [Nat.zero_add]; exact hx
    rw [gn_some hx2]
    have hxr := hr x (List.mem_of_getElem? hx)
    have hol := (setL_facts (pre ++ (l.take n).take k)).2.2.1
    rw [← im] at hol
    rw [← io] at hol
    refine WP.ckI (by omega) ?_
    refine WP.ck (by simp only [maxLen]; omega) ?_
    (repeat' (first | with_reducible (first | refine WP.iteT ?_ | refine WP.iteF ?_ | refine WP.iteNb ?_ | refine WP.iteD (fun _ => ?_) (fun _ => ?_) | refine WP.iteE (fun _ => ?_) (fun _ => ?_) | refine WP.iteN (fun _ => ?_) (fun _ => ?_) | refine WP.iteB (fun _ => ?_) (fun _ => ?_)) | (with_reducible refine WP.ckI ?_ ?_; · omega) | (with_reducible refine WP.gn ?_ (fun _ _ => ?_); · omega) | (with_reducible refine WP.gt ?_ (fun _ _ => ?_); · omega) | with_reducible (first | refine WP.up ?_ | refine WP.letO ?_ | refine WP.ret ?_)))
    refine ⟨⟨by dsimp only; omega, ?_, ?_⟩, by dsimp only; omega⟩
    · dsimp only
      rw [take_snoc hx, ← List.append_assoc, List.length_append, ← im]; rfl
    · dsimp only
      rw [take_snoc hx, ← List.append_assoc, setL_snoc, io]
  · have hkn : k = n := by omega
    subst hkn
    rw [List.take_take, Nat.min_self] at im io
    refine WP.up ?_
    rw [im, io]
    exact next_j5 hpre hl (by rw [List.length_append, hin]; omega)
/-- The clubs that stay are moved to the front. -/
theorem next_rest {pre l up down : List Int} {p : Int → Bool} (hp : ∀ x, p x = (!up.contains x && !down.contains x)) (hpre : preE ts ss c = 0) (hr : ∀ x ∈ l, 0 ≤ x ∧ x ≤ 191) (hl : (pre ++ l.filter p).Perm (comeL ts ss c)) (hlen : pre.length + l.length ≤ 1000) (hu : up.length ≤ 1000) (hd : down.length ≤ 1000) :
    WP (g_prizes_Next_j3 (up, down, 0) pre.length (setL pre) l) (fun z => z = (nextL ts ss c, nextE ts ss c)) := by
  have key : ∀ x, (if up.contains x = true then true else down.contains x) = !p x := fun x => by
    rw [hp]; cases up.contains x <;> cases down.contains x <;> rfl
  unfold g_prizes_Next_j3
  refine WP.loop (fun k => k ≤ l.length ∧ (l.take k).filter p = l.take k) (fun k => l.length - k) ?_ ⟨by omega, by simp⟩
  rintro k ⟨hk, iv⟩
  simp only [g_prizes_Next_l14]
  refine WP.iteD (fun hlt => ?_) (fun hlt => ?_)
  · obtain ⟨x, hx⟩ : ∃ x, l[k]? = some x := ⟨_, List.getElem?_eq_getElem (by omega)⟩
    rw [gn_some hx]
    have j15 : ∀ b, b = (!p x) → WP (g_prizes_Next_j15 pre.length (setL pre) l (up, down, 0) k b) (Rnd (fun k : Nat => k ≤ l.length ∧ (l.take k).filter p = l.take k) (fun k => l.length - k) (l.length - k) fun z => z = (nextL ts ss c, nextE ts ss c)) := fun b hb => by
      unfold g_prizes_Next_j15
      cases hpx : p x
      · rw [hpx] at hb
        subst hb
        refine WP.iteT (WP.up ?_)
        show WP _ (fun z => z = (nextL ts ss c, nextE ts ss c))
        unfold g_prizes_Next_j8
        refine WP.iteE (fun h => absurd h (by omega)) (fun _ => ?_)
        refine WP.ckI (by omega) ?_
        refine WP.loop (fun v => ∃ I J : Nat, v.1 = (I : Int) ∧ v.2.1 = (J : Int) ∧ I < J ∧ J ≤ l.length ∧ v.2.2.length = l.length ∧ v.2.2.take I = (l.take J).filter p ∧ v.2.2.drop J = l.drop J) (fun v => l.length - v.2.1.toNat) ?_ ⟨k, k + 1, rfl, by dsimp only; omega, by omega, by omega, rfl, by rw [take_snoc hx, List.filter_append, iv, List.filter_cons, hpx]; simp, rfl⟩
        rintro ⟨i, j, o⟩ ⟨I, J, rfl, rfl, hIJ, hJ, hol, it, id⟩
        dsimp only at hol it id ⊢
        simp only [g_prizes_Next_l10]
        refine WP.iteD (fun hlt2 => ?_) (fun hlt2 => ?_)
        · obtain ⟨y, hy⟩ : ∃ y, l[J]? = some y := ⟨_, List.getElem?_eq_getElem (by omega)⟩
          have hoy : o[J]? = some y := by
            have := congrArg (fun z => z[0]?) id
            simp only [List.getElem?_drop, Nat.add_zero] at this
            rw [this]; exact hy
          rw [gt_some (x := y) (by simpa using hoy) (by omega)]
          have j12 : ∀ b, b = (!p y) → WP (g_prizes_Next_j12 o ((I : Nat) : Int) ((J : Nat) : Int) (up, down, 0) pre.length (setL pre) y b) (Rnd (fun v : Int × Int × List Int => ∃ I J : Nat, v.1 = (I : Int) ∧ v.2.1 = (J : Int) ∧ I < J ∧ J ≤ l.length ∧ v.2.2.length = l.length ∧ v.2.2.take I = (l.take J).filter p ∧ v.2.2.drop J = l.drop J) (fun v => l.length - v.2.1.toNat) (l.length - (((J : Nat) : Int)).toNat) fun z => z = (nextL ts ss c, nextE ts ss c)) := fun b hb => by
            unfold g_prizes_Next_j12 g_prizes_Next_j11
            have hdr : o.drop (J + 1) = l.drop (J + 1) := by
              rw [← List.drop_drop, ← List.drop_drop, id]
            cases hpy : p y
            · rw [hpy] at hb
              subst hb
              (repeat' (first | with_reducible (first | refine WP.iteT ?_ | refine WP.iteF ?_ | refine WP.iteNb ?_ | refine WP.iteD (fun _ => ?_) (fun _ => ?_) | refine WP.iteE (fun _ => ?_) (fun _ => ?_) | refine WP.iteN (fun _ => ?_) (fun _ => ?_) | refine WP.iteB (fun _ => ?_) (fun _ => ?_)) | (with_reducible refine WP.ckI ?_ ?_; · omega) | (with_reducible refine WP.gn ?_ (fun _ _ => ?_); · omega) | (with_reducible refine WP.gt ?_ (fun _ _ => ?_); · omega) | with_reducible (first | refine WP.up ?_ | refine WP.letO ?_ | refine WP.ret ?_)))
              exact ⟨⟨I, J + 1, rfl, by dsimp only; omega, by omega, by omega, hol, by dsimp only; rw [take_snoc hy, List.filter_append, it, List.filter_cons, hpy]; simp, hdr⟩, by dsimp only; omega⟩
            · rw [hpy] at hb
              subst hb
              refine WP.iteNb (WP.iteF ?_)
              refine WP.gt (by omega) fun z hz => ?_
              (repeat' (first | with_reducible (first | refine WP.iteT ?_ | refine WP.iteF ?_ | refine WP.iteNb ?_ | refine WP.iteD (fun _ => ?_) (fun _ => ?_) | refine WP.iteE (fun _ => ?_) (fun _ => ?_) | refine WP.iteN (fun _ => ?_) (fun _ => ?_) | refine WP.iteB (fun _ => ?_) (fun _ => ?_)) | (with_reducible refine WP.ckI ?_ ?_; · omega) | (with_reducible refine WP.gn ?_ (fun _ _ => ?_); · omega) | (with_reducible refine WP.gt ?_ (fun _ _ => ?_); · omega) | with_reducible (first | refine WP.up ?_ | refine WP.letO ?_ | refine WP.ret ?_)))
              refine ⟨⟨I + 1, J + 1, by dsimp only; omega, by dsimp only; omega, by omega, by omega, by simpa using hol, ?_, ?_⟩, by dsimp only; omega⟩
              · dsimp only
                rw [show (((I : Nat) : Int)).toNat = I by omega]
                have e1 : (o.set I y)[I]? = some y := by rw [List.getElem?_set]; simp; omega
                rw [take_snoc e1, List.take_set_of_le (by omega), it, take_snoc hy, List.filter_append, List.filter_cons, hpy]; simp
              · dsimp only
                rw [show (((I : Nat) : Int)).toNat = I by omega, List.drop_set_of_lt (by omega), hdr]
          refine WP.bd (contains_eq hu) ?_
          have hk := key y
          refine WP.iteB (fun h => ?_) (fun h => ?_)
          · refine j12 _ ?_
            rw [h] at hk; exact hk
          · refine WP.bd (contains_eq hd) ?_
            refine j12 _ ?_
            rw [h] at hk; exact hk
        · have hJl : J = l.length := by omega
          subst hJl
          rw [List.take_length] at it
          have hil : (l.filter p).length = I := by rw [← it, List.length_take, hol]; omega
          refine WP.up ?_
          unfold g_prizes_Next_j9
          refine WP.sbp (by simp; omega) ?_
          refine WP.ck (by simp; omega) ?_
          refine WP.sbp (by simp; omega) ?_
          have e1 : ((some ((I : Nat) : Int)).getD 0).toNat = I := by simp
          have e2 : ((none : Option Int).getD 0).toNat = 0 := by simp
          simp only [e1, e2, Option.getD_some, Int.toNat_natCast, Nat.sub_zero]
          have e3 : ∀ m (z : List Int), (o.take I ++ List.replicate m 0 ++ z).take I = l.filter p := fun m z => by
            rw [List.append_assoc, List.take_append_of_le_length (by simp; omega), List.take_take, Nat.min_self, it]
          refine next_j4 hpre (by simp; omega) ?_ ?_ (by omega)
          · rw [e3]; exact fun x hx => hr x (List.mem_filter.1 hx).1
          · rw [e3]; exact hl
      · rw [hpx] at hb
        subst hb
        (repeat' (first | with_reducible (first | refine WP.iteT ?_ | refine WP.iteF ?_ | refine WP.iteNb ?_ | refine WP.iteD (fun _ => ?_) (fun _ => ?_) | refine WP.iteE (fun _ => ?_) (fun _ => ?_) | refine WP.iteN (fun _ => ?_) (fun _ => ?_) | refine WP.iteB (fun _ => ?_) (fun _ => ?_)) | (with_reducible refine WP.ckI ?_ ?_; · omega) | (with_reducible refine WP.gn ?_ (fun _ _ => ?_); · omega) | (with_reducible refine WP.gt ?_ (fun _ _ => ?_); · omega) | with_reducible (first | refine WP.up ?_ | refine WP.letO ?_ | refine WP.ret ?_)))
        exact ⟨⟨by omega, by rw [take_snoc hx, List.filter_append, iv, List.filter_cons, hpx]; simp⟩, by dsimp only; omega⟩
    refine WP.bd (contains_eq hu) ?_
    have hk := key x
    refine WP.iteB (fun h => ?_) (fun h => ?_)
    · refine j15 _ ?_
      rw [h] at hk; exact hk
    · refine WP.bd (contains_eq hd) ?_
      refine j15 _ ?_
      rw [h] at hk; exact hk
  · rw [List.take_of_length_le (by omega)] at iv
    refine WP.up ?_
    unfold g_prizes_Next_j13 g_prizes_Next_j8
    refine WP.iteE (fun _ => ?_) (fun h => absurd rfl h)
    rw [List.length_map]
    have e : l.take l.length = l := List.take_length
    refine next_j4 hpre (Nat.le_refl _) ?_ ?_ hlen
    · rw [e]; exact hr
    · rw [e, ← iv]; exact hl
theorem next_j2 {pre : List Int} (hpre : preE ts ss c = 0) (hm : movE (ofT ts ss c) (ofS ts ss c) = 0) (hft : ∀ t ∈ ts, t.l.length ≤ 30) (hl : pre = aboveL ts ss (ofS ts ss c).ab ++ belowL ts ss (ofS ts ss c).be) :
    WP (g_prizes_Next_j2 (⟨ofT ts ss c, ofS ts ss c⟩, true) (upM (ofT ts ss c) (ofS ts ss c), downM (ofT ts ss c) (ofS ts ss c), 0) pre.length (setL pre)) (fun z => z = (nextL ts ss c, nextE ts ss c)) := by
  have hcl := comeL_len (ss := ss) (c := c) hft
  have hle : pre.length ≤ 90 := by
    simp only [comeL, List.length_append] at hcl
    rw [hl, List.length_append]; omega
  have hT := ofT_len (ss := ss) hft c
  have hu := upM_length (ofT ts ss c) (ofS ts ss c)
  have hd := downM_length (ofT ts ss c) (ofS ts ss c)
  unfold g_prizes_Next_j2
  refine WP.loop (fun v => v.1 ≤ (ofT ts ss c).l.length ∧ v.2 = ((ofT ts ss c).l.take v.1).map clubOf) (fun v => (ofT ts ss c).l.length - v.1) ?_ ⟨by simp, by simp⟩
  rintro ⟨k, o⟩ ⟨hk, iv⟩
  dsimp only at hk iv ⊢
  have ho : o.length = k := by rw [iv]; simp; omega
  simp only [g_prizes_Next_l17]
  refine WP.iteD (fun hlt => ?_) (fun hlt => ?_)
  · obtain ⟨x, hx⟩ : ∃ x, (ofT ts ss c).l[k]? = some x := ⟨_, List.getElem?_eq_getElem (by omega)⟩
    rw [gn_some hx]
    refine WP.ck (by simp only [List.length_cons, List.length_nil]; omega) ?_
    (repeat' (first | with_reducible (first | refine WP.iteT ?_ | refine WP.iteF ?_ | refine WP.iteNb ?_ | refine WP.iteD (fun _ => ?_) (fun _ => ?_) | refine WP.iteE (fun _ => ?_) (fun _ => ?_) | refine WP.iteN (fun _ => ?_) (fun _ => ?_) | refine WP.iteB (fun _ => ?_) (fun _ => ?_)) | (with_reducible refine WP.ckI ?_ ?_; · omega) | (with_reducible refine WP.gn ?_ (fun _ _ => ?_); · omega) | (with_reducible refine WP.gt ?_ (fun _ _ => ?_); · omega) | with_reducible (first | refine WP.up ?_ | refine WP.letO ?_ | refine WP.ret ?_)))
    exact ⟨⟨by dsimp only; omega, by dsimp only; rw [take_snoc hx, List.map_append, iv]; rfl⟩, by dsimp only; omega⟩
  · rw [List.take_of_length_le (by omega)] at iv
    refine WP.up ?_
    unfold g_prizes_Next_j16
    refine WP.ck (by omega) ?_
    rw [iv]
    have hrng := chk_range (movE_chk hm).2
    refine next_rest (p := stays (ofT ts ss c) (ofS ts ss c)) (fun x => rfl) hpre (fun x hx => hrng x ((srtI_perm _).mem_iff.1 hx)) ?_ (by rw [srtI_length, List.length_map]; omega) (by omega) (by omega)
    rw [hl, comeL]
    exact ((srtI_perm _).filter _).append_left _
/-- A list of clubs is counted and put into the set. -/
theorem next_l20 {pre up : List Int} {r3 : List Int × Int} {r4 : League × Bool} {r7 : List Int × List Int × Int} {K : List Int × Int → Prop} (hr : ∀ x ∈ up, 0 ≤ x ∧ x ≤ 191) (hlen : pre.length + up.length ≤ 1000) (h : WP (g_prizes_Next_j2 r4 r7 (pre ++ up).length (setL (pre ++ up))) K) :
    WP (loopO (g_prizes_Next_l20 (up, r3) r4 r7) (0, pre.length, setL pre)) K := by
  refine WP.loop (fun v => v.1 ≤ up.length ∧ v.2.1 = (pre ++ up.take v.1).length ∧ v.2.2 = setL (pre ++ up.take v.1)) (fun v => up.length - v.1) ?_ ⟨by simp, by simp, by simp⟩
  rintro ⟨k, m, o⟩ ⟨hk, im, io⟩
  dsimp only at hk im io ⊢
  have hm : m = pre.length + k := by rw [im, List.length_append, List.length_take]; omega
  simp only [g_prizes_Next_l20]
  refine WP.iteD (fun hlt => ?_) (fun hlt => ?_)
  · obtain ⟨x, hx⟩ : ∃ x, up[k]? = some x := ⟨_, List.getElem?_eq_getElem (by omega)⟩
    rw [gn_some hx]
    have hxr := hr x (List.mem_of_getElem? hx)
    have hol := (setL_facts (pre ++ up.take k)).2.2.1
    rw [← im] at hol
    rw [← io] at hol
    refine WP.ckI (by omega) ?_
    refine WP.ck (by simp only [maxLen]; omega) ?_
    (repeat' (first | with_reducible (first | refine WP.iteT ?_ | refine WP.iteF ?_ | refine WP.iteNb ?_ | refine WP.iteD (fun _ => ?_) (fun _ => ?_) | refine WP.iteE (fun _ => ?_) (fun _ => ?_) | refine WP.iteN (fun _ => ?_) (fun _ => ?_) | refine WP.iteB (fun _ => ?_) (fun _ => ?_)) | (with_reducible refine WP.ckI ?_ ?_; · omega) | (with_reducible refine WP.gn ?_ (fun _ _ => ?_); · omega) | (with_reducible refine WP.gt ?_ (fun _ _ => ?_); · omega) | with_reducible (first | refine WP.up ?_ | refine WP.letO ?_ | refine WP.ret ?_)))
    refine ⟨⟨by dsimp only; omega, ?_, ?_⟩, by dsimp only; omega⟩
    · dsimp only
      rw [take_snoc hx, ← List.append_assoc, List.length_append, ← im]; rfl
    · dsimp only
      rw [take_snoc hx, ← List.append_assoc, setL_snoc, io]
  · rw [List.take_of_length_le (by omega)] at im io
    refine WP.up ?_
    unfold g_prizes_Next_j19
    rw [im, io]
    exact h
theorem next_l23 {down : List Int} {r1 : List Int} {e : Int} {r4 : League × Bool} {r7 : List Int × List Int × Int} {n : Int} {K : List Int × Int → Prop} (hr : ∀ x ∈ down, 0 ≤ x ∧ x ≤ 191) (hlen : down.length ≤ 1000) (h : WP (g_prizes_Next_j1 r4 ts ss r7 n down.length (setL down)) K) :
    WP (loopO (g_prizes_Next_l23 (r1, down, e) r4 ts ss r7 n) (0, 0, [])) K := by
  refine WP.loop (fun v => v.1 ≤ down.length ∧ v.2.1 = (down.take v.1).length ∧ v.2.2 = setL (down.take v.1)) (fun v => down.length - v.1) ?_ ⟨by simp, by simp, by simp [setL]⟩
  rintro ⟨k, m, o⟩ ⟨hk, im, io⟩
  dsimp only at hk im io ⊢
  have hm : m = k := by rw [im, List.length_take]; omega
  simp only [g_prizes_Next_l23]
  refine WP.iteD (fun hlt => ?_) (fun hlt => ?_)
  · obtain ⟨x, hx⟩ : ∃ x, down[k]? = some x := ⟨_, List.getElem?_eq_getElem (by omega)⟩
    rw [gn_some hx]
    have hxr := hr x (List.mem_of_getElem? hx)
    have hol := (setL_facts (down.take k)).2.2.1
    rw [← im] at hol
    rw [← io] at hol
    refine WP.ckI (by omega) ?_
    refine WP.ck (by simp only [maxLen]; omega) ?_
    (repeat' (first | with_reducible (first | refine WP.iteT ?_ | refine WP.iteF ?_ | refine WP.iteNb ?_ | refine WP.iteD (fun _ => ?_) (fun _ => ?_) | refine WP.iteE (fun _ => ?_) (fun _ => ?_) | refine WP.iteN (fun _ => ?_) (fun _ => ?_) | refine WP.iteB (fun _ => ?_) (fun _ => ?_)) | (with_reducible refine WP.ckI ?_ ?_; · omega) | (with_reducible refine WP.gn ?_ (fun _ _ => ?_); · omega) | (with_reducible refine WP.gt ?_ (fun _ _ => ?_); · omega) | with_reducible (first | refine WP.up ?_ | refine WP.letO ?_ | refine WP.ret ?_)))
    refine ⟨⟨by dsimp only; omega, ?_, ?_⟩, by dsimp only; omega⟩
    · dsimp only
      rw [take_snoc hx, List.length_append, ← im]; rfl
    · dsimp only
      rw [take_snoc hx, setL_snoc, io]
  · rw [List.take_of_length_le (by omega)] at im io
    refine WP.up ?_
    unfold g_prizes_Next_j22
    rw [im, io]
    exact h
theorem next_eq (h1 : ts.length ≤ 1000) (h2 : ss.length ≤ 1000) (hft : ∀ t ∈ ts, t.l.length ≤ 30) (hfs : ∀ s ∈ ss, s.p.length ≤ 30) : g_prizes_Next ts ss c = some (nextL ts ss c, nextE ts ss c) := by
  refine WP.eq ?_
  have bad : ∀ e : Int, nextE ts ss c = e → e ≠ 0 → (([] : List Int), e) = (nextL ts ss c, nextE ts ss c) := fun e he h0 => by rw [nextL_nil he h0, he]
  have hlen := fun n => ofT_len (ss := ss) hft n
  have hlenS := fun n => ofS_len (ts := ts) hfs n
  unfold g_prizes_Next
  refine WP.bd (of_eq h1 h2) ?_
  dsimp only
  cases hb : ofB ts ss c
  · refine WP.iteNb (WP.iteF (WP.ret ?_))
    exact bad 420 (err_1 hb) (by omega)
  refine WP.iteNb (WP.iteT ?_)
  refine WP.bd (moves_eq (by have := hlen c; omega) (by have := hlenS c; omega)) ?_
  dsimp only
  refine WP.iteN (fun hm => ?_) (fun hm => ?_)
  · exact WP.ret (bad _ (err_2 hb hm) hm)
  rw [hm]
  have hal : (aboveL ts ss (ofS ts ss c).ab).length ≤ 90 := by
    have := comeL_len (ss := ss) (c := c) hft
    simp only [comeL, List.length_append] at this; omega
  have j1 : aboveE ts ss c = 0 → WP (g_prizes_Next_j1 (⟨ofT ts ss c, ofS ts ss c⟩, true) ts ss (upM (ofT ts ss c) (ofS ts ss c), downM (ofT ts ss c) (ofS ts ss c), 0) c (aboveL ts ss (ofS ts ss c).ab).length (setL (aboveL ts ss (ofS ts ss c).ab))) (fun z => z = (nextL ts ss c, nextE ts ss c)) := fun ha => by
    unfold g_prizes_Next_j1
    dsimp only
    refine WP.iteN (fun hn => ?_) (fun hn => ?_)
    · refine WP.bd (of_eq h1 h2) ?_
      dsimp only
      have j18t : (ofB ts ss (ofS ts ss c).be = false ∨ (ofT ts ss (ofS ts ss c).be).s ≠ (ofT ts ss c).s ∨ (ofS ts ss (ofS ts ss c).be).ab ≠ c) → ∀ r r4 r7 n m, WP (g_prizes_Next_j18 r r4 r7 n m true) (fun z => z = (nextL ts ss c, nextE ts ss c)) := fun hd r r4 r7 n m => by
        unfold g_prizes_Next_j18
        refine WP.iteT (WP.ret ?_)
        exact bad 420 (err_5 hb hm ha hn hd) (by omega)
      cases hb2 : ofB ts ss (ofS ts ss c).be
      · refine WP.iteNb (WP.iteF ?_)
        exact j18t (.inl hb2) _ _ _ _ _
      refine WP.iteNb (WP.iteT ?_)
      refine WP.iteN (fun h3 => j18t (.inr (.inl h3)) _ _ _ _ _) (fun h3 => ?_)
      by_cases h4 : (ofS ts ss (ofS ts ss c).be).ab = c
      · rw [show ((ofS ts ss (ofS ts ss c).be).ab != c) = false by simpa using h4]
        unfold g_prizes_Next_j18
        refine WP.iteF ?_
        refine WP.bd (moves_eq (by have := hlen (ofS ts ss c).be; dsimp only; omega) (by have := hlenS (ofS ts ss c).be; dsimp only; omega)) ?_
        dsimp only
        refine WP.iteN (fun hm2 => ?_) (fun hm2 => ?_)
        · exact WP.ret (bad _ (err_6 hb hm ha hn hb2 h3 h4 hm2) hm2)
        have hul := upM_length (ofT ts ss (ofS ts ss c).be) (ofS ts ss (ofS ts ss c).be)
        have := hlen (ofS ts ss c).be
        have hbe : belowE ts ss c = 0 := (sideE_ok hn hb2 h3 h4).trans hm2
        have hrng := chk_range (movE_chk hm2).2
        refine next_l20 (fun x hx => hrng x (upM_sub hm2 x hx)) (by omega) ?_
        refine next_j2 ((preE_4 hb hm ha).trans hbe) hm hft ?_
        rw [belowL, if_neg hn]
      · rw [show ((ofS ts ss (ofS ts ss c).be).ab != c) = true by simpa using h4]
        exact j18t (.inr (.inr h4)) _ _ _ _ _
    · have hbe : belowE ts ss c = 0 := sideE_skip hn
      refine next_j2 ((preE_4 hb hm ha).trans hbe) hm hft ?_
      rw [belowL, if_pos hn, List.append_nil]
  refine WP.iteN (fun hn => ?_) (fun hn => ?_)
  · refine WP.bd (of_eq h1 h2) ?_
    dsimp only
    have j21t : (ofB ts ss (ofS ts ss c).ab = false ∨ (ofT ts ss (ofS ts ss c).ab).s ≠ (ofT ts ss c).s ∨ (ofS ts ss (ofS ts ss c).ab).be ≠ c) → ∀ r r4 r7, WP (g_prizes_Next_j21 r r4 ts ss r7 c true) (fun z => z = (nextL ts ss c, nextE ts ss c)) := fun hd r r4 r7 => by
      unfold g_prizes_Next_j21
      refine WP.iteT (WP.ret ?_)
      exact bad 420 (err_3 hb hm hn hd) (by omega)
    cases hb2 : ofB ts ss (ofS ts ss c).ab
    · refine WP.iteNb (WP.iteF ?_)
      exact j21t (.inl hb2) _ _ _
    refine WP.iteNb (WP.iteT ?_)
    refine WP.iteN (fun h3 => j21t (.inr (.inl h3)) _ _ _) (fun h3 => ?_)
    by_cases h4 : (ofS ts ss (ofS ts ss c).ab).be = c
    · rw [show ((ofS ts ss (ofS ts ss c).ab).be != c) = false by simpa using h4]
      unfold g_prizes_Next_j21
      refine WP.iteF ?_
      refine WP.bd (moves_eq (by have := hlen (ofS ts ss c).ab; dsimp only; omega) (by have := hlenS (ofS ts ss c).ab; dsimp only; omega)) ?_
      dsimp only
      refine WP.iteN (fun hm2 => ?_) (fun hm2 => ?_)
      · exact WP.ret (bad _ (err_4 hb hm hn hb2 h3 h4 hm2) hm2)
      have hul := downM_length (ofT ts ss (ofS ts ss c).ab) (ofS ts ss (ofS ts ss c).ab)
      have := hlen (ofS ts ss c).ab
      have hae : aboveE ts ss c = 0 := (sideE_ok hn hb2 h3 h4).trans hm2
      have hrng := chk_range (movE_chk hm2).2
      refine next_l23 (fun x hx => hrng x (downM_sub hm2 x hx)) (by omega) ?_
      have := j1 hae
      rw [aboveL, if_neg hn] at this
      exact this
    · rw [show ((ofS ts ss (ofS ts ss c).ab).be != c) = true by simpa using h4]
      exact j21t (.inr (.inr h4)) _ _ _
  · have := j1 (sideE_skip hn)
    rw [aboveL, if_pos hn] at this
    exact this
end
end Go.Proofs.YtoiiblkncbnlaaaGreat

/-
  Chapter 42: comparisons, the size of the statements' inputs, the chapter's examples, the three statements about the reference. Conditions: those of each theorem.
-/
set_option linter.unusedVariables false
set_option linter.unusedSimpArgs false
namespace Go.Proofs.YtoiiblkncbnlaaaGreat
open Go.DL
set_option maxHeartbeats 4000000
theorem same_eq {a b : List Pay} (h : a.length ≤ 1000) : WP (g_ref42_Same a b) (fun z => (z = true ↔ a = b)) := by
  unfold g_ref42_Same
  refine WP.iteN (fun hl => ?_) (fun hl => ?_)
  · refine WP.ret ?_
    simp only [Bool.false_eq_true, false_iff]
    rintro rfl; exact hl rfl
  refine WP.loop (fun k => k ≤ a.length ∧ a.take k = b.take k) (fun k => a.length - k) ?_ ⟨by omega, by simp⟩
  rintro k ⟨hk, iv⟩
  simp only [g_ref42_Same_l2]
  refine WP.iteD (fun hlt => ?_) (fun hlt => ?_)
  · obtain ⟨x, hx⟩ : ∃ x, a[k]? = some x := ⟨_, List.getElem?_eq_getElem (by omega)⟩
    obtain ⟨y, hy⟩ : ∃ y, b[k]? = some y := ⟨_, List.getElem?_eq_getElem (by omega)⟩
    rw [gn_some hx, gn_some hy]
    by_cases he : x = y
    · subst he
      rw [show (!((x.c == x.c) && ((x.a == x.a) && true))) = false by simp]
      (repeat' (first | with_reducible (first | refine WP.iteT ?_ | refine WP.iteF ?_ | refine WP.iteNb ?_ | refine WP.iteD (fun _ => ?_) (fun _ => ?_) | refine WP.iteE (fun _ => ?_) (fun _ => ?_) | refine WP.iteN (fun _ => ?_) (fun _ => ?_) | refine WP.iteB (fun _ => ?_) (fun _ => ?_)) | (with_reducible refine WP.ckI ?_ ?_; · omega) | (with_reducible refine WP.gn ?_ (fun _ _ => ?_); · omega) | (with_reducible refine WP.gt ?_ (fun _ _ => ?_); · omega) | with_reducible (first | refine WP.up ?_ | refine WP.letO ?_ | refine WP.ret ?_)))
      exact ⟨⟨by omega, by rw [take_snoc hx, take_snoc hy, iv]⟩, by dsimp only; omega⟩
    · have hne : (!((x.c == y.c) && ((x.a == y.a) && true))) = true := by
        by_cases h1 : x.c = y.c
        · by_cases h2 : x.a = y.a
          · exact absurd (by cases x; cases y; simp at h1 h2; subst h1; subst h2; rfl) he
          · simp [h2]
        · simp [h1]
      rw [hne]
      (repeat' (first | with_reducible (first | refine WP.iteT ?_ | refine WP.iteF ?_ | refine WP.iteNb ?_ | refine WP.iteD (fun _ => ?_) (fun _ => ?_) | refine WP.iteE (fun _ => ?_) (fun _ => ?_) | refine WP.iteN (fun _ => ?_) (fun _ => ?_) | refine WP.iteB (fun _ => ?_) (fun _ => ?_)) | (with_reducible refine WP.ckI ?_ ?_; · omega) | (with_reducible refine WP.gn ?_ (fun _ _ => ?_); · omega) | (with_reducible refine WP.gt ?_ (fun _ _ => ?_); · omega) | with_reducible (first | refine WP.up ?_ | refine WP.letO ?_ | refine WP.ret ?_)))
      show (false = true ↔ a = b)
      simp only [Bool.false_eq_true, false_iff]
      rintro rfl
      rw [hx] at hy; exact he (Option.some.inj hy)
  · unfold g_ref42_Same_j1
    (repeat' (first | with_reducible (first | refine WP.iteT ?_ | refine WP.iteF ?_ | refine WP.iteNb ?_ | refine WP.iteD (fun _ => ?_) (fun _ => ?_) | refine WP.iteE (fun _ => ?_) (fun _ => ?_) | refine WP.iteN (fun _ => ?_) (fun _ => ?_) | refine WP.iteB (fun _ => ?_) (fun _ => ?_)) | (with_reducible refine WP.ckI ?_ ?_; · omega) | (with_reducible refine WP.gn ?_ (fun _ _ => ?_); · omega) | (with_reducible refine WP.gt ?_ (fun _ _ => ?_); · omega) | with_reducible (first | refine WP.up ?_ | refine WP.letO ?_ | refine WP.ret ?_)))
    show (true = true ↔ a = b)
    rw [List.take_of_length_le (by omega), List.take_of_length_le (by omega)] at iv
    simp [iv]
theorem sameInts_eq {a b : List Int} (h : a.length ≤ 1000) : WP (g_ref42_SameInts a b) (fun z => (z = true ↔ a = b)) := by
  unfold g_ref42_SameInts
  refine WP.iteN (fun hl => ?_) (fun hl => ?_)
  · refine WP.ret ?_
    simp only [Bool.false_eq_true, false_iff]
    rintro rfl; exact hl rfl
  refine WP.loop (fun k => k ≤ a.length ∧ a.take k = b.take k) (fun k => a.length - k) ?_ ⟨by omega, by simp⟩
  rintro k ⟨hk, iv⟩
  simp only [g_ref42_SameInts_l2]
  refine WP.iteD (fun hlt => ?_) (fun hlt => ?_)
  · obtain ⟨x, hx⟩ : ∃ x, a[k]? = some x := ⟨_, List.getElem?_eq_getElem (by omega)⟩
    obtain ⟨y, hy⟩ : ∃ y, b[k]? = some y := ⟨_, List.getElem?_eq_getElem (by omega)⟩
    rw [gn_some hx, gn_some hy]
    refine WP.iteN (fun he => ?_) (fun he => ?_)
    · (repeat' (first | with_reducible (first | refine WP.iteT ?_ | refine WP.iteF ?_ | refine WP.iteNb ?_ | refine WP.iteD (fun _ => ?_) (fun _ => ?_) | refine WP.iteE (fun _ => ?_) (fun _ => ?_) | refine WP.iteN (fun _ => ?_) (fun _ => ?_) | refine WP.iteB (fun _ => ?_) (fun _ => ?_)) | (with_reducible refine WP.ckI ?_ ?_; · omega) | (with_reducible refine WP.gn ?_ (fun _ _ => ?_); · omega) | (with_reducible refine WP.gt ?_ (fun _ _ => ?_); · omega) | with_reducible (first | refine WP.up ?_ | refine WP.letO ?_ | refine WP.ret ?_)))
      show (false = true ↔ a = b)
      simp only [Bool.false_eq_true, false_iff]
      rintro rfl
      rw [hx] at hy; exact he (Option.some.inj hy)
    · subst he
      (repeat' (first | with_reducible (first | refine WP.iteT ?_ | refine WP.iteF ?_ | refine WP.iteNb ?_ | refine WP.iteD (fun _ => ?_) (fun _ => ?_) | refine WP.iteE (fun _ => ?_) (fun _ => ?_) | refine WP.iteN (fun _ => ?_) (fun _ => ?_) | refine WP.iteB (fun _ => ?_) (fun _ => ?_)) | (with_reducible refine WP.ckI ?_ ?_; · omega) | (with_reducible refine WP.gn ?_ (fun _ _ => ?_); · omega) | (with_reducible refine WP.gt ?_ (fun _ _ => ?_); · omega) | with_reducible (first | refine WP.up ?_ | refine WP.letO ?_ | refine WP.ret ?_)))
      exact ⟨⟨by omega, by rw [take_snoc hx, take_snoc hy, iv]⟩, by dsimp only; omega⟩
  · unfold g_ref42_SameInts_j1
    (repeat' (first | with_reducible (first | refine WP.iteT ?_ | refine WP.iteF ?_ | refine WP.iteNb ?_ | refine WP.iteD (fun _ => ?_) (fun _ => ?_) | refine WP.iteE (fun _ => ?_) (fun _ => ?_) | refine WP.iteN (fun _ => ?_) (fun _ => ?_) | refine WP.iteB (fun _ => ?_) (fun _ => ?_)) | (with_reducible refine WP.ckI ?_ ?_; · omega) | (with_reducible refine WP.gn ?_ (fun _ _ => ?_); · omega) | (with_reducible refine WP.gt ?_ (fun _ _ => ?_); · omega) | with_reducible (first | refine WP.up ?_ | refine WP.letO ?_ | refine WP.ret ?_)))
    show (true = true ↔ a = b)
    rw [List.take_of_length_le (by omega), List.take_of_length_le (by omega)] at iv
    simp [iv]
theorem few_eq (ts : List Tab) (ss : List Sch) : WP (g_ref42_Few ts ss) (fun z => (z = true ↔ Few ts ss)) := by
  have no : ¬ Few ts ss → (false = true ↔ Few ts ss) := fun h => by simp [h]
  have j1 : ∀ b, (b = true → ¬ Few ts ss) → (b = false → ts.length ≤ 5 ∧ ss.length ≤ 5) → WP (g_ref42_Few_j1 ts ss b) (fun z => (z = true ↔ Few ts ss)) := fun b h1 h2 => by
    unfold g_ref42_Few_j1
    cases b
    · obtain ⟨h3, h4⟩ := h2 rfl
      refine WP.iteF ?_
      refine WP.loop (fun k => k ≤ ts.length ∧ ∀ t ∈ ts.take k, t.l.length ≤ 30) (fun k => ts.length - k) ?_ ⟨by omega, by simp⟩
      rintro k ⟨hk, iv⟩
      simp only [g_ref42_Few_l5]
      refine WP.iteD (fun hlt => ?_) (fun hlt => ?_)
      · obtain ⟨x, hx⟩ : ∃ x, ts[k]? = some x := ⟨_, List.getElem?_eq_getElem (by omega)⟩
        rw [gn_some hx]
        refine WP.iteD (fun h5 => ?_) (fun h5 => ?_)
        · (repeat' (first | with_reducible (first | refine WP.iteT ?_ | refine WP.iteF ?_ | refine WP.iteNb ?_ | refine WP.iteD (fun _ => ?_) (fun _ => ?_) | refine WP.iteE (fun _ => ?_) (fun _ => ?_) | refine WP.iteN (fun _ => ?_) (fun _ => ?_) | refine WP.iteB (fun _ => ?_) (fun _ => ?_)) | (with_reducible refine WP.ckI ?_ ?_; · omega) | (with_reducible refine WP.gn ?_ (fun _ _ => ?_); · omega) | (with_reducible refine WP.gt ?_ (fun _ _ => ?_); · omega) | with_reducible (first | refine WP.up ?_ | refine WP.letO ?_ | refine WP.ret ?_)))
          refine no fun hf => ?_
          have := hf.2.2.1 x (List.mem_of_getElem? hx)
          omega
        · (repeat' (first | with_reducible (first | refine WP.iteT ?_ | refine WP.iteF ?_ | refine WP.iteNb ?_ | refine WP.iteD (fun _ => ?_) (fun _ => ?_) | refine WP.iteE (fun _ => ?_) (fun _ => ?_) | refine WP.iteN (fun _ => ?_) (fun _ => ?_) | refine WP.iteB (fun _ => ?_) (fun _ => ?_)) | (with_reducible refine WP.ckI ?_ ?_; · omega) | (with_reducible refine WP.gn ?_ (fun _ _ => ?_); · omega) | (with_reducible refine WP.gt ?_ (fun _ _ => ?_); · omega) | with_reducible (first | refine WP.up ?_ | refine WP.letO ?_ | refine WP.ret ?_)))
          exact ⟨⟨by omega, all_snoc iv hx (by omega)⟩, by dsimp only; omega⟩
      · rw [List.take_of_length_le (by omega)] at iv
        refine WP.up ?_
        unfold g_ref42_Few_j2
        refine WP.loop (fun k => k ≤ ss.length ∧ ∀ s ∈ ss.take k, s.p.length ≤ 30) (fun k => ss.length - k) ?_ ⟨by omega, by simp⟩
        rintro j ⟨hj, iw⟩
        simp only [g_ref42_Few_l4]
        refine WP.iteD (fun hlt2 => ?_) (fun hlt2 => ?_)
        · obtain ⟨x, hx⟩ : ∃ x, ss[j]? = some x := ⟨_, List.getElem?_eq_getElem (by omega)⟩
          rw [gn_some hx]
          refine WP.iteD (fun h5 => ?_) (fun h5 => ?_)
          · (repeat' (first | with_reducible (first | refine WP.iteT ?_ | refine WP.iteF ?_ | refine WP.iteNb ?_ | refine WP.iteD (fun _ => ?_) (fun _ => ?_) | refine WP.iteE (fun _ => ?_) (fun _ => ?_) | refine WP.iteN (fun _ => ?_) (fun _ => ?_) | refine WP.iteB (fun _ => ?_) (fun _ => ?_)) | (with_reducible refine WP.ckI ?_ ?_; · omega) | (with_reducible refine WP.gn ?_ (fun _ _ => ?_); · omega) | (with_reducible refine WP.gt ?_ (fun _ _ => ?_); · omega) | with_reducible (first | refine WP.up ?_ | refine WP.letO ?_ | refine WP.ret ?_)))
            refine no fun hf => ?_
            have := hf.2.2.2 x (List.mem_of_getElem? hx)
            omega
          · (repeat' (first | with_reducible (first | refine WP.iteT ?_ | refine WP.iteF ?_ | refine WP.iteNb ?_ | refine WP.iteD (fun _ => ?_) (fun _ => ?_) | refine WP.iteE (fun _ => ?_) (fun _ => ?_) | refine WP.iteN (fun _ => ?_) (fun _ => ?_) | refine WP.iteB (fun _ => ?_) (fun _ => ?_)) | (with_reducible refine WP.ckI ?_ ?_; · omega) | (with_reducible refine WP.gn ?_ (fun _ _ => ?_); · omega) | (with_reducible refine WP.gt ?_ (fun _ _ => ?_); · omega) | with_reducible (first | refine WP.up ?_ | refine WP.letO ?_ | refine WP.ret ?_)))
            exact ⟨⟨by omega, all_snoc iw hx (by omega)⟩, by dsimp only; omega⟩
        · rw [List.take_of_length_le (by omega)] at iw
          unfold g_ref42_Few_j3
          (repeat' (first | with_reducible (first | refine WP.iteT ?_ | refine WP.iteF ?_ | refine WP.iteNb ?_ | refine WP.iteD (fun _ => ?_) (fun _ => ?_) | refine WP.iteE (fun _ => ?_) (fun _ => ?_) | refine WP.iteN (fun _ => ?_) (fun _ => ?_) | refine WP.iteB (fun _ => ?_) (fun _ => ?_)) | (with_reducible refine WP.ckI ?_ ?_; · omega) | (with_reducible refine WP.gn ?_ (fun _ _ => ?_); · omega) | (with_reducible refine WP.gt ?_ (fun _ _ => ?_); · omega) | with_reducible (first | refine WP.up ?_ | refine WP.letO ?_ | refine WP.ret ?_)))
          show (true = true ↔ Few ts ss)
          simp only [true_iff]
          exact ⟨h3, h4, iv, iw⟩
    · refine WP.iteT (WP.ret ?_)
      exact no (h1 rfl)
  unfold g_ref42_Few
  refine WP.iteD (fun h => ?_) (fun h => ?_)
  · refine j1 _ (fun _ hf => ?_) (fun hb => by cases hb)
    have := hf.1; omega
  · refine j1 _ (fun hb hf => ?_) (fun hb => ?_)
    · have := hf.2.1
      have := of_decide_eq_true hb
      omega
    · have := of_decide_eq_false hb
      omega
theorem level_eq {c : Int} {cs : List Int} (h : cs.length ≤ 1000) : g_law42_level c cs = some (levelT c cs) := by
  refine WP.eq ?_
  unfold g_law42_level
  refine WP.loop (fun v => v.1 ≤ cs.length ∧ v.2 = (cs.take v.1).map tied) (fun v => cs.length - v.1) ?_ ⟨by simp, by simp⟩
  rintro ⟨k, o⟩ ⟨hk, iv⟩
  dsimp only at hk iv ⊢
  have ho : o.length = k := by rw [iv]; simp; omega
  simp only [g_law42_level_l2]
  refine WP.iteD (fun hlt => ?_) (fun hlt => ?_)
  · obtain ⟨x, hx⟩ : ∃ x, cs[k]? = some x := ⟨_, List.getElem?_eq_getElem (by omega)⟩
    rw [gn_some hx]
    refine WP.ck (by simp only [List.length_cons, List.length_nil]; omega) ?_
    (repeat' (first | with_reducible (first | refine WP.iteT ?_ | refine WP.iteF ?_ | refine WP.iteNb ?_ | refine WP.iteD (fun _ => ?_) (fun _ => ?_) | refine WP.iteE (fun _ => ?_) (fun _ => ?_) | refine WP.iteN (fun _ => ?_) (fun _ => ?_) | refine WP.iteB (fun _ => ?_) (fun _ => ?_)) | (with_reducible refine WP.ckI ?_ ?_; · omega) | (with_reducible refine WP.gn ?_ (fun _ _ => ?_); · omega) | (with_reducible refine WP.gt ?_ (fun _ _ => ?_); · omega) | with_reducible (first | refine WP.up ?_ | refine WP.letO ?_ | refine WP.ret ?_)))
    exact ⟨⟨by dsimp only; omega, level_step iv hx⟩, by dsimp only; omega⟩
  · unfold g_law42_level_j1
    (repeat' (first | with_reducible (first | refine WP.iteT ?_ | refine WP.iteF ?_ | refine WP.iteNb ?_ | refine WP.iteD (fun _ => ?_) (fun _ => ?_) | refine WP.iteE (fun _ => ?_) (fun _ => ?_) | refine WP.iteN (fun _ => ?_) (fun _ => ?_) | refine WP.iteB (fun _ => ?_) (fun _ => ?_)) | (with_reducible refine WP.ckI ?_ ?_; · omega) | (with_reducible refine WP.gn ?_ (fun _ _ => ?_); · omega) | (with_reducible refine WP.gt ?_ (fun _ _ => ?_); · omega) | with_reducible (first | refine WP.up ?_ | refine WP.letO ?_ | refine WP.ret ?_)))
    rw [iv, List.take_of_length_le (by omega)]; rfl
/-! ### the chapter's examples -/
def sc1 : Sch := ⟨2, [⟨1, 2, 101⟩], 0, 0, -1, -1⟩
def sc2 : Sch := ⟨2, [⟨1, 2, 101⟩], 3, 0, 1, -1⟩
def ta1 : Tab := levelT 2 [4, 9]
theorem ex_fit : fitS ta1 sc1 = 0 := by decide
theorem ex_pay : payU ta1 sc1 = [⟨4, 51⟩, ⟨9, 50⟩] := by decide
theorem ex_pay2 : srtP (payU ta1 sc1) = [⟨4, 51⟩, ⟨9, 50⟩] := by
  rw [← insAll_eq (by rw [ex_pay]; decide), ex_pay]; decide
theorem ex_mov : movE ta1 sc1 = 0 := by decide
theorem ex_of : ofB [ta1] [sc1] 2 = true ∧ ofT [ta1] [sc1] 2 = ta1 ∧ ofS [ta1] [sc1] 2 = sc1 := by
  have h : ofB [ta1] [sc1] 2 = true := by decide
  exact ⟨h, ofT_yes h (by rfl), ofS_yes h (by rfl)⟩
theorem ex_none : clubsL [] = [] := by rw [clubsL, ← insAllI_eq]; rfl
theorem ex_rest : restL ta1 sc1 = [4, 9] := by
  have h1 : upM ta1 sc1 = [] := by rw [upM_ok ex_mov]; exact ex_none
  have h2 : downM ta1 sc1 = [] := by rw [downM_ok ex_mov]; exact ex_none
  unfold restL
  rw [show stays ta1 sc1 = fun _ => true by funext x; unfold stays; rw [h1, h2]; rfl]
  decide
theorem ex_come : comeL [ta1] [sc1] 2 = [4, 9] := by
  obtain ⟨_, h2, h3⟩ := ex_of
  unfold comeL
  rw [h2, h3, ex_rest]
  rfl
theorem ex_next : nextE [ta1] [sc1] 2 = 0 ∧ nextL [ta1] [sc1] 2 = [4, 9] := by
  obtain ⟨h1, h2, h3⟩ := ex_of
  have ha : aboveE [ta1] [sc1] 2 = 0 := sideE_skip (by rw [h3]; rfl)
  have hb : belowE [ta1] [sc1] 2 = 0 := sideE_skip (by rw [h3]; rfl)
  have hp := (preE_4 h1 (by rw [h2, h3]; exact ex_mov) ha).trans hb
  have e := nextE_0 hp (by rw [ex_come]; decide)
  refine ⟨e, ?_⟩
  rw [nextL_ok e, ex_come, ← insAllI_eq]; decide
theorem sane_eq : g_law42_sane = some true := by
  refine WP.eq ?_
  unfold g_law42_sane
  refine WP.bd (level_eq (by simp)) ?_
  refine WP.bd (r := ([⟨4, 51⟩, ⟨9, 50⟩], 0)) ?_ ?_
  · refine (gprizes_eq (by simp [levelT]) (by simp)).trans ?_
    show some (if fitS ta1 sc1 = 0 then srtP (payU ta1 sc1) else [], fitS ta1 sc1) = _
    rw [ex_fit, ex_pay2]; rfl
  refine WP.bd (r := ([4, 9], 0)) ?_ ?_
  · refine (next_eq (by simp) (by simp) (by simp [levelT]) (by simp)).trans ?_
    show some (nextL [ta1] [sc1] 2, nextE [ta1] [sc1] 2) = _
    rw [ex_next.1, ex_next.2]
  refine WP.bd (r := ([], 420)) ?_ ?_
  · refine (next_eq (by simp) (by simp) (by simp) (by simp)).trans ?_
    have e : nextE [] [] 0 = 420 := err_1 (by decide)
    rw [nextL_nil e (by omega), e]
  refine WP.bd (r := ([], 1)) ?_ ?_
  · refine (gprizes_eq (by simp) (by simp)).trans ?_
    show some (if fitS ⟨0, 0, []⟩ sc1 = 0 then srtP (payU ⟨0, 0, []⟩ sc1) else [], fitS ⟨0, 0, []⟩ sc1) = _
    have e : fitS ⟨0, 0, []⟩ sc1 = 1 := by decide
    rw [e]; rfl
  refine WP.bd (r := ([], [], 420)) ?_ ?_
  · refine (moves_eq (by simp [levelT]) (by simp)).trans ?_
    show some (upM ta1 sc2, downM ta1 sc2, movE ta1 sc2) = _
    have e : movE ta1 sc2 = 420 := by decide
    rw [upM_nil (by omega), downM_nil (by omega), e]
  refine WP.iteN (fun h => absurd rfl h) (fun _ => ?_)
  refine WP.iteN (fun h => absurd rfl h) (fun _ => ?_)
  refine WP.iteN (fun h => absurd rfl h) (fun _ => ?_)
  refine WP.bd (r := 1) ((tcheck_eq (by simp)).trans (by rfl)) ?_
  refine WP.iteN (fun h => absurd rfl h) (fun _ => ?_)
  refine WP.iteE (fun h => by cases h) (fun _ => ?_)
  rw [show ((((([] : List Int), ([] : List Int), (420 : Int)) : List Int × List Int × Int).2.2 != 420)) = false by rfl]
  unfold g_law42_sane_j1
  refine WP.iteF ?_
  refine WP.bdW ((same_eq (by simp)).mono fun z hz => ?_)
  rw [hz.2 rfl]
  refine WP.iteT ?_
  refine WP.bdW ((sameInts_eq (by simp)).mono fun z hz => ?_)
  rw [hz.2 rfl]
  refine WP.iteT ?_
  refine WP.bd (r := 0) ((pcheck_eq (by simp)).trans (by rfl)) ?_
  refine WP.iteE (fun _ => ?_) (fun h => absurd rfl h)
  refine WP.bd (r := 420) ((pcheck_eq (by simp)).trans (by rfl)) ?_
  refine WP.iteE (fun _ => ?_) (fun h => absurd rfl h)
  refine WP.bd (r := 420) ((pcheck_eq (by simp)).trans (by rfl)) ?_
  exact WP.ret rfl
/-! ### the statements -/
theorem few_one {t : Tab} {s : Sch} (h : Few [t] [s]) : t.l.length ≤ 30 ∧ s.p.length ≤ 30 := ⟨h.2.2.1 t (by simp), h.2.2.2 s (by simp)⟩
theorem paySpec_eq (t : Tab) (s : Sch) : g_law42_PrizesPaySpec t s = some true := by
  refine WP.eq ?_
  unfold g_law42_PrizesPaySpec
  refine WP.bd sane_eq ?_
  refine WP.iteNb (WP.iteT ?_)
  refine WP.bd (r := ([t], [s])) rfl ?_
  refine WP.bdW ((few_eq [t] [s]).mono fun z hz => ?_)
  cases z
  · exact WP.iteNb (WP.iteF (WP.ret rfl))
  obtain ⟨h1, h2⟩ := few_one (hz.1 rfl)
  refine WP.iteNb (WP.iteT ?_)
  refine WP.bd (gprizes_eq (by omega) (by omega)) ?_
  refine WP.bd (rprizes_eq (by omega) (by omega)) ?_
  refine WP.bd (pcheck_eq (by omega)) ?_
  refine WP.bd (rcheck_eq s) ?_
  refine WP.iteE (fun _ => ?_) (fun h => absurd rfl h)
  have hlen : (if fitS t s = 0 then srtP (payU t s) else []).length ≤ 1000 := by
    split
    · have h3 := (srtP_perm (payU t s)).length_eq
      have h4 := payU_len t s
      omega
    · simp
  refine WP.bdW ((same_eq hlen).mono fun z hz => ?_)
  have he : z = true := hz.2 (by
    split
    · rename_i h; exact (insAll_eq (payU_nodup (fitS_ok h).1)).symm
    · rfl)
  rw [he]
  refine WP.iteT (WP.ret ?_)
  simp
theorem movesSpec_eq (t : Tab) (s : Sch) : g_law42_PrizesMovesSpec t s = some true := by
  refine WP.eq ?_
  unfold g_law42_PrizesMovesSpec
  refine WP.bd sane_eq ?_
  refine WP.iteNb (WP.iteT ?_)
  refine WP.bd (r := ([t], [s])) rfl ?_
  refine WP.bdW ((few_eq [t] [s]).mono fun z hz => ?_)
  cases z
  · exact WP.iteNb (WP.iteF (WP.ret rfl))
  obtain ⟨h1, h2⟩ := few_one (hz.1 rfl)
  refine WP.iteNb (WP.iteT ?_)
  refine WP.bd (moves_eq (by omega) (by omega)) ?_
  refine WP.bd (rmoves_eq (by omega)) ?_
  have hu := upM_length t s
  have hd := downM_length t s
  refine WP.bdW ((sameInts_eq (by dsimp only; omega)).mono fun z hz => ?_)
  rw [hz.2 rfl]
  refine WP.iteT ?_
  refine WP.bdW ((sameInts_eq (by dsimp only; omega)).mono fun z hz => ?_)
  rw [hz.2 rfl]
  refine WP.iteT (WP.ret ?_)
  simp
end Go.Proofs.YtoiiblkncbnlaaaGreat
