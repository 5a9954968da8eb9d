/-
  Texts that belong together, one behind the other; what each of them proves, and under which conditions, its own heading says.
-/
import Derived.Test.YtoiiblkncbnlaaaGreatXe
/-
  Chapter 42: what the program's prizes compute. Conditions: those of each theorem.
-/
set_option linter.unusedVariables false
set_option linter.unusedSimpArgs false
namespace Go.Proofs.YtoiiblkncbnlaaaGreat
open Go.DL
set_option maxHeartbeats 4000000
theorem len0_eq : g_math_bits_Len 0 = some 0 := by
  refine WP.eq ?_
  unfold g_math_bits_Len
  refine WP.bd (r := 0) ?_ (WP.ret rfl)
  refine WP.eq ?_
  unfold g_math_bits_Len64 g_math_bits_Len64_j1 g_math_bits_Len64_j2 g_math_bits_Len64_j3
  refine WP.iteD (fun h => absurd h (by omega)) (fun _ => ?_)
  refine WP.iteD (fun h => absurd h (by omega)) (fun _ => ?_)
  refine WP.iteD (fun h => absurd h (by omega)) (fun _ => ?_)
  rw [gt_some (x := 0) (by rfl) (by decide)]
  refine WP.ckI (by decide) ?_
  refine WP.ckI (by decide) (WP.ret ?_)
  decide
theorem srtP_nil : srtP [] = [] := by simp [srtP]
theorem prizes_j1_eq {l : List Pay} (hn : (l.map (·.c)).Nodup) (hl : l.length ≤ 1000) : g_prizes_Prizes_j1 l = some (srtP l, 0) := by
  unfold g_prizes_Prizes_j1
  by_cases h : l = []
  · rw [if_pos h, len0_eq, bd_some]
    have h5 : (g_prizes_Prizes_j5) = some (.inr ([], 0)) := rfl
    have h6 : loopO g_prizes_Prizes_l6 () = some (.inr ([], 0)) := loopO_inr (by rw [g_prizes_Prizes_l6, h5]; rfl)
    rw [loopO_inr (r := ([], 0)) (by rw [g_prizes_Prizes_l4]; exact h6), h, srtP_nil]
  · rw [if_neg h, ck_pos hn, ck_pos (by omega)]; rfl
section
variable {t : Tab} {s : Sch} {gs : List (List Place)} {U : List Pay}
theorem prizes_l11 {x : List Place} {ns rest : List Int} {k : Nat} {l : List Pay} {K : ((List Int) × Nat × (List Pay)) ⊕ ((List Pay) × Int) → Prop} (hx : ns.length = x.length) (hl : (l ++ share x ns).length ≤ 1000) (hk : k ≤ 1000) (hx2 : x.length ≤ 1000)
    (h : K (.inl (rest, k + 1, l ++ share x ns))) : WP (loopO (g_prizes_Prizes_l11 ns x rest gs k) (0, l)) K := by
  refine WP.loop (fun v => v.1 ≤ x.length ∧ v.2 ++ share (x.drop v.1) (ns.drop v.1) = l ++ share x ns) (fun v => x.length - v.1) ?_ ⟨by simp, by simp⟩
  rintro ⟨j, o⟩ ⟨hj, iv⟩
  dsimp only at hj iv ⊢
  simp only [g_prizes_Prizes_l11]
  refine WP.iteD (fun hlt => ?_) (fun hlt => ?_)
  · obtain ⟨n, hn⟩ : ∃ n, ns[j]? = some n := ⟨_, List.getElem?_eq_getElem (by omega)⟩
    obtain ⟨y, hy⟩ : ∃ y, x[j]? = some y := ⟨_, List.getElem?_eq_getElem (by omega)⟩
    rw [gn_some hn, gn_some hy]
    refine WP.iteD (fun hp => ?_) (fun hp => ?_)
    · rw [share_yes hy hn hp] at iv
      have hlen : o.length + 1 ≤ 1000 := by
        rw [← iv] at hl
        simp only [List.length_append, List.length_cons] at hl; omega
      refine WP.ck (by simp only [List.length_cons, List.length_nil]; omega) ?_
      unfold g_prizes_Prizes_j12
      (repeat' (first | with_reducible (first | refine WP.iteT ?_ | refine WP.iteF ?_ | refine WP.iteNb ?_ | refine WP.iteD (fun _ => ?_) (fun _ => ?_) | refine WP.iteE (fun _ => ?_) (fun _ => ?_) | refine WP.iteN (fun _ => ?_) (fun _ => ?_) | refine WP.iteB (fun _ => ?_) (fun _ => ?_)) | (with_reducible refine WP.ckI ?_ ?_; · omega) | (with_reducible refine WP.gn ?_ (fun _ _ => ?_); · omega) | (with_reducible refine WP.gt ?_ (fun _ _ => ?_); · omega) | with_reducible (first | refine WP.up ?_ | refine WP.letO ?_ | refine WP.ret ?_)))
      exact ⟨⟨by dsimp only; omega, by dsimp only; rw [← iv]; simp⟩, by dsimp only; omega⟩
    · rw [share_no hy hn hp] at iv
      unfold g_prizes_Prizes_j12
      (repeat' (first | with_reducible (first | refine WP.iteT ?_ | refine WP.iteF ?_ | refine WP.iteNb ?_ | refine WP.iteD (fun _ => ?_) (fun _ => ?_) | refine WP.iteE (fun _ => ?_) (fun _ => ?_) | refine WP.iteN (fun _ => ?_) (fun _ => ?_) | refine WP.iteB (fun _ => ?_) (fun _ => ?_)) | (with_reducible refine WP.ckI ?_ ?_; · omega) | (with_reducible refine WP.gn ?_ (fun _ _ => ?_); · omega) | (with_reducible refine WP.gt ?_ (fun _ _ => ?_); · omega) | with_reducible (first | refine WP.up ?_ | refine WP.letO ?_ | refine WP.ret ?_)))
      exact ⟨⟨by dsimp only; omega, iv⟩, by dsimp only; omega⟩
  · rw [share_end (by omega), List.append_nil] at iv
    unfold g_prizes_Prizes_j9
    (repeat' (first | with_reducible (first | refine WP.iteT ?_ | refine WP.iteF ?_ | refine WP.iteNb ?_ | refine WP.iteD (fun _ => ?_) (fun _ => ?_) | refine WP.iteE (fun _ => ?_) (fun _ => ?_) | refine WP.iteN (fun _ => ?_) (fun _ => ?_) | refine WP.iteB (fun _ => ?_) (fun _ => ?_)) | (with_reducible refine WP.ckI ?_ ?_; · omega) | (with_reducible refine WP.gn ?_ (fun _ _ => ?_); · omega) | (with_reducible refine WP.gt ?_ (fun _ _ => ?_); · omega) | with_reducible (first | refine WP.up ?_ | refine WP.letO ?_ | refine WP.ret ?_)))
    rw [iv]; exact h
theorem prizes_sum {x : List Place} {rest : List Int} {k : Nat} {l : List Pay} {K : ((List Int) × Nat × (List Pay)) ⊕ ((List Pay) × Int) → Prop} (hr : ∀ m, 0 ≤ sumL 0 (rest.take m) ∧ sumL 0 (rest.take m) ≤ 1125899906842624) (hx : x.length ≤ rest.length) (hx1 : 1 ≤ x.length) (hx2 : x.length ≤ 256) (hl : (l ++ share x (eqL (sumL 0 (rest.take x.length)) x.length)).length ≤ 1000) (hk : k ≤ 1000)
    (h : K (.inl (rest.drop x.length, k + 1, l ++ share x (eqL (sumL 0 (rest.take x.length)) x.length)))) : WP (loopO (g_prizes_Prizes_l13 (subList rest none (some ((x.length : Nat) : Int))) rest x gs k l) (0, 0)) K := by
  have e1 : subList rest none (some ((x.length : Nat) : Int)) = rest.take x.length := by simp [subList]
  have e2 : subList rest (some ((x.length : Nat) : Int)) none = rest.drop x.length := by simp [subList]
  have el : (rest.take x.length).length = x.length := by simp; omega
  rw [e1]
  refine WP.loop (fun v => v.2 ≤ x.length ∧ v.1 = sumL 0 (rest.take v.2)) (fun v => x.length - v.2) ?_ ⟨by simp, by simp [sumL]⟩
  rintro ⟨n, j⟩ ⟨hj, iv⟩
  dsimp only at hj iv ⊢
  simp only [g_prizes_Prizes_l13]
  refine WP.iteD (fun hlt => ?_) (fun hlt => ?_)
  · obtain ⟨y, hy⟩ : ∃ y, rest[j]? = some y := ⟨_, List.getElem?_eq_getElem (by omega)⟩
    have hy' : (rest.take x.length)[j]? = some y := by rw [List.getElem?_take_of_lt (by omega)]; exact hy
    rw [gn_some hy']
    have e3 : n + y = sumL 0 (rest.take (j + 1)) := by rw [take_snoc hy, sumL_snoc, iv]
    have := hr (j + 1)
    (repeat' (first | with_reducible (first | refine WP.iteT ?_ | refine WP.iteF ?_ | refine WP.iteNb ?_ | refine WP.iteD (fun _ => ?_) (fun _ => ?_) | refine WP.iteE (fun _ => ?_) (fun _ => ?_) | refine WP.iteN (fun _ => ?_) (fun _ => ?_) | refine WP.iteB (fun _ => ?_) (fun _ => ?_)) | (with_reducible refine WP.ckI ?_ ?_; · omega) | (with_reducible refine WP.gn ?_ (fun _ _ => ?_); · omega) | (with_reducible refine WP.gt ?_ (fun _ _ => ?_); · omega) | with_reducible (first | refine WP.up ?_ | refine WP.letO ?_ | refine WP.ret ?_)))
    exact ⟨⟨by dsimp only; omega, e3⟩, by dsimp only; omega⟩
  · have hjx : j = x.length := by omega
    subst hjx
    unfold g_prizes_Prizes_j10
    (first | with_reducible (first | refine WP.iteT ?_ | refine WP.iteF ?_ | refine WP.iteNb ?_ | refine WP.iteD (fun _ => ?_) (fun _ => ?_) | refine WP.iteE (fun _ => ?_) (fun _ => ?_) | refine WP.iteN (fun _ => ?_) (fun _ => ?_) | refine WP.iteB (fun _ => ?_) (fun _ => ?_)) | (with_reducible refine WP.ckI ?_ ?_; · omega) | (with_reducible refine WP.gn ?_ (fun _ _ => ?_); · omega) | (with_reducible refine WP.gt ?_ (fun _ _ => ?_); · omega) | with_reducible (first | refine WP.up ?_ | refine WP.letO ?_ | refine WP.ret ?_))
    refine WP.sb (by simp; omega) ?_
    rw [e2]
    have := hr x.length
    refine WP.bd (equal_eq (n := ((x.length : Nat) : Int)) (a := n) (by omega) (by omega) (by omega) (by omega)) ?_
    rw [iv, show (((x.length : Nat) : Int)).toNat = x.length by omega]
    exact prizes_l11 (eqL_length _ _) hl hk (by omega) h
/-- The groups' payments. -/
theorem prizes_j7 {ps : List Prize} (hp : prOK 0 ps = true) (hs : sumA ps ≤ 1125899906842624) (hg : gs.flatten.length ≤ 24) (hne : ∀ x ∈ gs, x ≠ []) (hn : ((payG (partL ps) gs).map (·.c)).Nodup) :
    g_prizes_Prizes_j7 (partL ps) gs = some (srtP (payG (partL ps) gs), 0) := by
  have hlen : (payG (partL ps) gs).length ≤ 24 := by
    have := (payG_sub gs (partL ps)).length_le
    rw [List.length_map, List.length_map] at this; omega
  have hgl : gs.length ≤ gs.flatten.length := by
    clear hg hn hlen
    induction gs with
    | nil => simp
    | cons g gs ih =>
      have h1 := hne g (by simp)
      have h2 := ih fun x hx => hne x (by simp [hx])
      have h3 : 1 ≤ g.length := by cases g with | nil => exact absurd rfl h1 | cons _ _ => simp
      simp only [List.length_cons, List.flatten_cons, List.length_append]; omega
  refine WP.eq ?_
  unfold g_prizes_Prizes_j7
  refine WP.loop (fun v => ∃ i, v.2.1 ≤ gs.length ∧ v.1 = (partL ps).drop i ∧ i + (gs.drop v.2.1).flatten.length ≤ 24 ∧ v.2.2 ++ payG v.1 (gs.drop v.2.1) = payG (partL ps) gs) (fun v => gs.length - v.2.1) ?_ ⟨0, by simp, by simp, by simpa using hg, by simp⟩
  rintro ⟨rest, k, l⟩ ⟨i, hk, hr, hi, iv⟩
  dsimp only at hk hr hi iv ⊢
  simp only [g_prizes_Prizes_l8]
  have hpl : (partL ps).length = 24 := by simp [partL]
  refine WP.iteD (fun hlt => ?_) (fun hlt => ?_)
  · obtain ⟨x, hx⟩ : ∃ x, gs[k]? = some x := ⟨_, List.getElem?_eq_getElem (by omega)⟩
    rw [gn_some hx]
    have hx1 : 1 ≤ x.length := by
      have := hne x (List.mem_of_getElem? hx)
      cases x with | nil => exact absurd rfl this | cons _ _ => simp
    rw [drop_cons hx, List.flatten_cons, List.length_append] at hi
    rw [drop_cons hx, payG] at iv
    have hrl : rest.length = 24 - i := by rw [hr, List.length_drop, hpl]
    refine WP.sb (by simp; omega) ?_
    refine prizes_sum (fun m => ?_) (by omega) hx1 (by omega) ?_ (by omega) ?_
    · rw [hr]
      exact ⟨sumL_nonneg fun y hy => partL_nonneg hp y (List.mem_of_mem_drop (List.mem_of_mem_take hy)), part_total hp hs i m⟩
    · have h1 := congrArg List.length iv
      simp only [List.length_append] at h1 ⊢
      omega
    · refine ⟨⟨i + x.length, by dsimp only; omega, by dsimp only; rw [hr, List.drop_drop], by dsimp only; omega, ?_⟩, by dsimp only; omega⟩
      dsimp only
      rw [List.append_assoc]; exact iv
  · rw [List.drop_eq_nil_of_le (by omega), payG, List.append_nil] at iv
    (repeat' (first | with_reducible (first | refine WP.iteT ?_ | refine WP.iteF ?_ | refine WP.iteNb ?_ | refine WP.iteD (fun _ => ?_) (fun _ => ?_) | refine WP.iteE (fun _ => ?_) (fun _ => ?_) | refine WP.iteN (fun _ => ?_) (fun _ => ?_) | refine WP.iteB (fun _ => ?_) (fun _ => ?_)) | (with_reducible refine WP.ckI ?_ ?_; · omega) | (with_reducible refine WP.gn ?_ (fun _ _ => ?_); · omega) | (with_reducible refine WP.gt ?_ (fun _ _ => ?_); · omega) | with_reducible (first | refine WP.up ?_ | refine WP.letO ?_ | refine WP.ret ?_)))
    subst iv
    exact WP.of (prizes_j1_eq hn (by omega)) rfl
end
theorem gprizes_eq {t : Tab} {s : Sch} (hl : t.l.length ≤ 1000) (hs : s.p.length ≤ 1000) : g_prizes_Prizes t s = some (if fitS t s = 0 then srtP (payU t s) else [], fitS t s) := by
  refine WP.eq ?_
  unfold g_prizes_Prizes
  refine WP.bd (fits_eq hl hs) ?_
  refine WP.iteN (fun h => ?_) (fun h => ?_)
  · rw [if_neg h]; exact WP.ret rfl
  rw [if_pos h, h]
  obtain ⟨hp, hsum, _⟩ := fit_prizes h
  have h24 := fit_ranges h
  have hn : ((payU t s).map (·.c)).Nodup := payU_nodup (fitS_ok h).1
  have hfl := grp_flat t.l
  have fin : g_prizes_Prizes_j7 (partL s.p) (grp t.l) = some (srtP (payU t s), 0) := prizes_j7 hp hsum (by rw [hfl.1]; omega) hfl.2 hn
  refine WP.bd (parts_eq hp hs) ?_
  refine WP.loop (fun v => match v with
    | .inl _ => True
    | .inr (k, a, b) => ∃ x, 1 ≤ k ∧ k ≤ t.l.length ∧ t.l[k - 1]? = some x ∧ a.length + 1 ≤ k ∧ b.length ≤ k ∧ grp t.l = a ++ grpGo b x.k (t.l.drop k)) (fun v => match v with
    | .inl _ => t.l.length + 1
    | .inr (k, _, _) => t.l.length - k) ?_ trivial
  rintro (_ | ⟨k, a, b⟩) iv
  · simp only [g_prizes_Prizes_l16]
    refine WP.iteD (fun hlt => ?_) (fun hlt => absurd (show (0 : Int) < ((t.l.length : Nat) : Int) by omega) hlt)
    obtain ⟨x, hx⟩ : ∃ x, t.l[0]? = some x := ⟨_, List.getElem?_eq_getElem (by omega)⟩
    rw [gn_some hx]
    refine WP.ret ?_
    refine ⟨⟨x, by omega, by omega, hx, by simp, by simp, ?_⟩, by dsimp only; omega⟩
    rw [List.nil_append]
    have h1 := drop_cons hx
    rw [List.drop_zero] at h1
    rw [h1]; rfl
  · obtain ⟨x, hk1, hk, hx, ha, hb, iv⟩ := iv
    simp only [g_prizes_Prizes_l16]
    refine WP.iteD (fun hlt => ?_) (fun hlt => ?_)
    · obtain ⟨y, hy⟩ : ∃ y, t.l[k]? = some y := ⟨_, List.getElem?_eq_getElem (by omega)⟩
      rw [gn_some hy]
      refine WP.iteD (fun _ => ?_) (fun h => absurd h (by omega))
      refine WP.ckI (by omega) ?_
      rw [gt_some (x := x) (by rw [show (((k : Nat) : Int) - 1).toNat = k - 1 by omega]; exact hx) (by omega)]
      refine WP.bd (r := (x.k == y.k)) rfl ?_
      rw [drop_cons hy, grpGo] at iv
      by_cases he : x.k = y.k
      · rw [if_pos he] at iv
        rw [show (x.k == y.k) = true by simpa using he]
        unfold g_prizes_Prizes_j18
        refine WP.iteT ?_
        refine WP.ckI (by omega) ?_
        refine WP.ck (by omega) ?_
        refine WP.ck (by omega) ?_
        refine WP.ck (by simp only [List.length_cons, List.length_nil]; omega) ?_
        unfold g_prizes_Prizes_j17
        refine WP.ckI (by omega) ?_
        refine WP.ret ?_
        exact ⟨⟨y, by omega, by omega, by simpa using hy, by omega, by simp; omega, by rw [← he]; exact iv⟩, by dsimp only; omega⟩
      · rw [if_neg he] at iv
        rw [show (x.k == y.k) = false by simpa using he]
        unfold g_prizes_Prizes_j18
        refine WP.iteF ?_
        refine WP.ck (by omega) ?_
        unfold g_prizes_Prizes_j17
        refine WP.ckI (by omega) ?_
        refine WP.ret ?_
        exact ⟨⟨y, by omega, by omega, by simpa using hy, by simp; omega, by first | (simp; done) | (simp; omega), by first | exact iv | (rw [List.append_assoc]; exact iv)⟩, by dsimp only; omega⟩
    · rw [List.drop_eq_nil_of_le (by omega), grpGo] at iv
      unfold g_prizes_Prizes_j15
      rw [← iv]
      refine WP.up ?_
      exact WP.of fin rfl
end Go.Proofs.YtoiiblkncbnlaaaGreat

/-
  Chapter 42: what the reference's prizes compute. Conditions: those of each theorem.
-/
set_option linter.unusedVariables false
set_option linter.unusedSimpArgs false
namespace Go.Proofs.YtoiiblkncbnlaaaGreat
open Go.DL
set_option maxHeartbeats 4000000
theorem with_eq {l : List Int} {p : Int} (hl : l.length ≤ 1000) : g_ref42_with l p = some (insI p l) := by
  refine WP.eq ?_
  unfold g_ref42_with
  have stop : ∀ k : Nat, k ≤ l.length → (l.take k ++ ([p] ++ l.drop k)) = insI p l → WP (g_ref42_with_j1 l p k) (fun z => z = insI p l) := fun k hk h => by
    unfold g_ref42_with_j1
    refine WP.sb (by simp; omega) ?_
    have e : subList l (some ((k : Nat) : Int)) none = l.drop k := by simp [subList]
    rw [e]
    refine WP.ck (by simp; omega) ?_
    refine WP.ck (by omega) ?_
    refine WP.ck (by simp; omega) ?_
    exact WP.ret h
  refine WP.loop (fun k => k ≤ l.length ∧ insI p l = l.take k ++ insI p (l.drop k)) (fun k => l.length - k) ?_ ⟨by omega, by simp⟩
  rintro k ⟨hk, iv⟩
  simp only [g_ref42_with_l2]
  refine WP.iteD (fun hlt => ?_) (fun hlt => ?_)
  · obtain ⟨x, hx⟩ : ∃ x, l[k]? = some x := ⟨_, List.getElem?_eq_getElem (by omega)⟩
    rw [gn_some hx]
    unfold g_ref42_with_j3
    refine WP.iteD (fun h => ?_) (fun h => ?_)
    · (repeat' (first | with_reducible (first | refine WP.iteT ?_ | refine WP.iteF ?_ | refine WP.iteNb ?_ | refine WP.iteD (fun _ => ?_) (fun _ => ?_) | refine WP.iteE (fun _ => ?_) (fun _ => ?_) | refine WP.iteN (fun _ => ?_) (fun _ => ?_) | refine WP.iteB (fun _ => ?_) (fun _ => ?_)) | (with_reducible refine WP.ckI ?_ ?_; · omega) | (with_reducible refine WP.gn ?_ (fun _ _ => ?_); · omega) | (with_reducible refine WP.gt ?_ (fun _ _ => ?_); · omega) | with_reducible (first | refine WP.up ?_ | refine WP.letO ?_ | refine WP.ret ?_)))
      exact ⟨⟨by omega, insI_step iv hx h⟩, by dsimp only; omega⟩
    · refine WP.up ?_
      exact stop k hk (insI_at iv hk (.inr ⟨x, hx, h⟩))
  · unfold g_ref42_with_j3
    refine WP.iteF (WP.up ?_)
    exact stop k hk (insI_at iv hk (.inl (by omega)))
section
variable {t : Tab} {s : Sch} {i m : Nat} {out : List Pay} {x : Place} {K : ((List Pay) × Int) ⊕ ((List Pay) × Int) → Prop}
end
end Go.Proofs.YtoiiblkncbnlaaaGreat

/-
  Chapter 42: which clubs rise and fall; the table and the scheme of a league. Conditions: those of each theorem.
-/
set_option linter.unusedVariables false
set_option linter.unusedSimpArgs false
namespace Go.Proofs.YtoiiblkncbnlaaaGreat
open Go.DL
set_option maxHeartbeats 4000000
theorem clubs_eq {l : List Place} (hl : l.length ≤ 1000) : g_prizes_clubs l = some (clubsL l) := by
  refine WP.eq ?_
  unfold g_prizes_clubs
  refine WP.loop (fun v => v.1 ≤ l.length ∧ v.2 = (l.take v.1).map clubOf) (fun v => l.length - v.1) ?_ ⟨by simp, by simp⟩
  rintro ⟨k, o⟩ ⟨hk, iv⟩
  dsimp only at hk iv ⊢
  have ho : o.length = k := by rw [iv]; simp; omega
  simp only [g_prizes_clubs_l2]
  refine WP.iteD (fun hlt => ?_) (fun hlt => ?_)
  · obtain ⟨x, hx⟩ : ∃ x, l[k]? = some x := ⟨_, List.getElem?_eq_getElem (by omega)⟩
    rw [gn_some hx]
    refine WP.ck (by simp only [List.length_cons, List.length_nil]; omega) ?_
    (repeat' (first | with_reducible (first | refine WP.iteT ?_ | refine WP.iteF ?_ | refine WP.iteNb ?_ | refine WP.iteD (fun _ => ?_) (fun _ => ?_) | refine WP.iteE (fun _ => ?_) (fun _ => ?_) | refine WP.iteN (fun _ => ?_) (fun _ => ?_) | refine WP.iteB (fun _ => ?_) (fun _ => ?_)) | (with_reducible refine WP.ckI ?_ ?_; · omega) | (with_reducible refine WP.gn ?_ (fun _ _ => ?_); · omega) | (with_reducible refine WP.gt ?_ (fun _ _ => ?_); · omega) | with_reducible (first | refine WP.up ?_ | refine WP.letO ?_ | refine WP.ret ?_)))
    exact ⟨⟨by dsimp only; omega, by dsimp only; rw [take_snoc hx, List.map_append, iv]; rfl⟩, by dsimp only; omega⟩
  · unfold g_prizes_clubs_j1
    (first | with_reducible (first | refine WP.iteT ?_ | refine WP.iteF ?_ | refine WP.iteNb ?_ | refine WP.iteD (fun _ => ?_) (fun _ => ?_) | refine WP.iteE (fun _ => ?_) (fun _ => ?_) | refine WP.iteN (fun _ => ?_) (fun _ => ?_) | refine WP.iteB (fun _ => ?_) (fun _ => ?_)) | (with_reducible refine WP.ckI ?_ ?_; · omega) | (with_reducible refine WP.gn ?_ (fun _ _ => ?_); · omega) | (with_reducible refine WP.gt ?_ (fun _ _ => ?_); · omega) | with_reducible (first | refine WP.up ?_ | refine WP.letO ?_ | refine WP.ret ?_))
    refine WP.ck (by omega) (WP.ret ?_)
    rw [iv, List.take_of_length_le (by omega)]; rfl
theorem moves_eq {t : Tab} {s : Sch} (hl : t.l.length ≤ 1000) (hs : s.p.length ≤ 1000) : g_prizes_Moves t s = some (upM t s, downM t s, movE t s) := by
  refine WP.eq ?_
  unfold g_prizes_Moves
  refine WP.bd (fits_eq hl hs) ?_
  refine WP.iteN (fun h => ?_) (fun h => ?_)
  · have e := movE_bad h
    rw [upM_nil (by rw [e]; exact h), downM_nil (by rw [e]; exact h), e]; exact WP.ret rfl
  have hr := fit_ranges h
  refine WP.ckI (by omega) ?_
  refine WP.iteD (fun h2 => ?_) (fun h2 => ?_)
  · have e := movE_420 h h2
    rw [upM_nil (by omega), downM_nil (by omega), e]; exact WP.ret rfl
  · have e := movE_ok h h2
    rw [upM_ok e, downM_ok e, e]
    refine WP.sb (by simp; omega) ?_
    have e1 : subList t.l none (some s.u) = t.l.take s.u.toNat := by simp [subList]
    rw [e1]
    refine WP.bd (clubs_eq (by simp; omega)) ?_
    refine WP.ckI (by omega) ?_
    refine WP.sb (by simp; omega) ?_
    have e2 : subList t.l (some (((t.l.length : Nat) : Int) - s.d)) none = t.l.drop (t.l.length - s.d.toNat) := by simp [subList]; congr 1; omega
    rw [e2]
    refine WP.bd (clubs_eq (by simp; omega)) ?_
    exact WP.ret rfl
theorem rmoves_eq {t : Tab} {s : Sch} (hl : t.l.length ≤ 1000) : g_ref42_Moves t s = some (upM t s, downM t s, movE t s) := by
  refine WP.eq ?_
  unfold g_ref42_Moves
  refine WP.bd (checked_eq hl) ?_
  refine WP.iteN (fun h => ?_) (fun h => ?_)
  · have e := movE_bad h
    rw [upM_nil (by rw [e]; exact h), downM_nil (by rw [e]; exact h), e]; exact WP.ret rfl
  have hr := fit_ranges h
  refine WP.ckI (by omega) ?_
  refine WP.iteD (fun h2 => ?_) (fun h2 => ?_)
  · have e := movE_420 h h2
    rw [upM_nil (by omega), downM_nil (by omega), e]; exact WP.ret rfl
  · have e := movE_ok h h2
    rw [upM_ok e, downM_ok e, e]
    refine WP.loop (fun v => v.2.2 ≤ t.l.length ∧ v.1 = insAllI ((t.l.take (min v.2.2 s.u.toNat)).map clubOf) ∧ v.2.1 = insAllI (((t.l.take v.2.2).drop (t.l.length - s.d.toNat)).map clubOf)) (fun v => t.l.length - v.2.2) ?_ ⟨by simp, by simp [insAllI], by simp [insAllI]⟩
    rintro ⟨a, b, k⟩ ⟨hk, ia, ib⟩
    dsimp only at hk ia ib ⊢
    have hal : a.length ≤ 1000 := by rw [ia, insAllI_length]; simp; omega
    have hbl : b.length ≤ 1000 := by rw [ib, insAllI_length]; simp; omega
    simp only [g_ref42_Moves_l2]
    refine WP.iteD (fun hlt => ?_) (fun hlt => ?_)
    · obtain ⟨x, hx⟩ : ∃ x, t.l[k]? = some x := ⟨_, List.getElem?_eq_getElem (by omega)⟩
      have j4 : ∀ a', a' = insAllI ((t.l.take (min (k + 1) s.u.toNat)).map clubOf) → WP (g_ref42_Moves_j4 t s k b a') (Rnd (fun v : List Int × List Int × Nat => v.2.2 ≤ t.l.length ∧ v.1 = insAllI ((t.l.take (min v.2.2 s.u.toNat)).map clubOf) ∧ v.2.1 = insAllI (((t.l.take v.2.2).drop (t.l.length - s.d.toNat)).map clubOf)) (fun v => t.l.length - v.2.2) (t.l.length - k) fun z => z = (clubsL (t.l.take s.u.toNat), clubsL (t.l.drop (t.l.length - s.d.toNat)), 0)) := fun a' ha' => by
        unfold g_ref42_Moves_j4
        refine WP.ckI (by omega) ?_
        refine WP.iteD (fun h3 => ?_) (fun h3 => ?_)
        · rw [gn_some hx]
          refine WP.bd (with_eq hbl) ?_
          unfold g_ref42_Moves_j3
          (repeat' (first | with_reducible (first | refine WP.iteT ?_ | refine WP.iteF ?_ | refine WP.iteNb ?_ | refine WP.iteD (fun _ => ?_) (fun _ => ?_) | refine WP.iteE (fun _ => ?_) (fun _ => ?_) | refine WP.iteN (fun _ => ?_) (fun _ => ?_) | refine WP.iteB (fun _ => ?_) (fun _ => ?_)) | (with_reducible refine WP.ckI ?_ ?_; · omega) | (with_reducible refine WP.gn ?_ (fun _ _ => ?_); · omega) | (with_reducible refine WP.gt ?_ (fun _ _ => ?_); · omega) | with_reducible (first | refine WP.up ?_ | refine WP.letO ?_ | refine WP.ret ?_)))
          exact ⟨⟨by dsimp only; omega, ha', dn_yes ib hx (by omega)⟩, by dsimp only; omega⟩
        · unfold g_ref42_Moves_j3
          (repeat' (first | with_reducible (first | refine WP.iteT ?_ | refine WP.iteF ?_ | refine WP.iteNb ?_ | refine WP.iteD (fun _ => ?_) (fun _ => ?_) | refine WP.iteE (fun _ => ?_) (fun _ => ?_) | refine WP.iteN (fun _ => ?_) (fun _ => ?_) | refine WP.iteB (fun _ => ?_) (fun _ => ?_)) | (with_reducible refine WP.ckI ?_ ?_; · omega) | (with_reducible refine WP.gn ?_ (fun _ _ => ?_); · omega) | (with_reducible refine WP.gt ?_ (fun _ _ => ?_); · omega) | with_reducible (first | refine WP.up ?_ | refine WP.letO ?_ | refine WP.ret ?_)))
          exact ⟨⟨by dsimp only; omega, ha', dn_no ib (by omega)⟩, by dsimp only; omega⟩
      refine WP.iteD (fun h3 => ?_) (fun h3 => ?_)
      · rw [gn_some hx]
        refine WP.bd (with_eq hal) ?_
        exact j4 _ (up_yes ia hx (by omega))
      · exact j4 _ (up_no ia (by omega))
    · unfold g_ref42_Moves_j1
      (repeat' (first | with_reducible (first | refine WP.iteT ?_ | refine WP.iteF ?_ | refine WP.iteNb ?_ | refine WP.iteD (fun _ => ?_) (fun _ => ?_) | refine WP.iteE (fun _ => ?_) (fun _ => ?_) | refine WP.iteN (fun _ => ?_) (fun _ => ?_) | refine WP.iteB (fun _ => ?_) (fun _ => ?_)) | (with_reducible refine WP.ckI ?_ ?_; · omega) | (with_reducible refine WP.gn ?_ (fun _ _ => ?_); · omega) | (with_reducible refine WP.gt ?_ (fun _ _ => ?_); · omega) | with_reducible (first | refine WP.up ?_ | refine WP.letO ?_ | refine WP.ret ?_)))
      rw [ia, ib, insAllI_eq, insAllI_eq, Nat.min_eq_right (by omega), List.take_of_length_le (by omega : t.l.length ≤ k)]; rfl
theorem of_eq {ts : List Tab} {ss : List Sch} {c : Int} (h1 : ts.length ≤ 1000) (h2 : ss.length ≤ 1000) : g_prizes_of ts ss c = some (⟨ofT ts ss c, ofS ts ss c⟩, ofB ts ss c) := by
  have hj2 : g_prizes_of_j2 (idxT c ts 0) ts ss (idxS c ss 0) = some (⟨ofT ts ss c, ofS ts ss c⟩, ofB ts ss c) := by
    refine WP.eq ?_
    unfold g_prizes_of_j2
    have no : ofB ts ss c = false → WP (g_prizes_of_j3 ts (idxT c ts 0) ss (idxS c ss 0) true) (fun z => z = (⟨ofT ts ss c, ofS ts ss c⟩, ofB ts ss c)) := fun h => by
      unfold g_prizes_of_j3
      (repeat' (first | with_reducible (first | refine WP.iteT ?_ | refine WP.iteF ?_ | refine WP.iteNb ?_ | refine WP.iteD (fun _ => ?_) (fun _ => ?_) | refine WP.iteE (fun _ => ?_) (fun _ => ?_) | refine WP.iteN (fun _ => ?_) (fun _ => ?_) | refine WP.iteB (fun _ => ?_) (fun _ => ?_)) | (with_reducible refine WP.ckI ?_ ?_; · omega) | (with_reducible refine WP.gn ?_ (fun _ _ => ?_); · omega) | (with_reducible refine WP.gt ?_ (fun _ _ => ?_); · omega) | with_reducible (first | refine WP.up ?_ | refine WP.letO ?_ | refine WP.ret ?_)))
      rw [h, ofT_no h, ofS_no h]; rfl
    refine WP.iteD (fun h => ?_) (fun h => ?_)
    · exact no (ofB_no (.inl h))
    · by_cases h3 : idxS c ss 0 < 0
      · rw [decide_eq_true h3]; exact no (ofB_no (.inr h3))
      · rw [decide_eq_false h3]
        have hb := ofB_yes (ts := ts) (ss := ss) (c := c) (by omega) (by omega)
        have r1 := idxT_range c ts 0
        have r2 := idxS_range c ss 0
        unfold g_prizes_of_j3
        refine WP.iteF ?_
        refine WP.gt (by omega) fun x hx => ?_
        refine WP.gt (by omega) fun y hy => ?_
        refine WP.ret ?_
        rw [hb, ofT_yes hb hx, ofS_yes hb hy]
  have hj1 : g_prizes_of_j1 ss c ts (idxT c ts 0) = some (⟨ofT ts ss c, ofS ts ss c⟩, ofB ts ss c) := by
    refine WP.eq ?_
    unfold g_prizes_of_j1
    refine WP.loop (fun k => k ≤ ss.length ∧ idxS c (ss.drop k) k = idxS c ss 0) (fun k => ss.length - k) ?_ ⟨by omega, rfl⟩
    rintro k ⟨hk, iv⟩
    simp only [g_prizes_of_l5]
    refine WP.iteD (fun hlt => ?_) (fun hlt => ?_)
    · obtain ⟨x, hx⟩ : ∃ x, ss[k]? = some x := ⟨_, List.getElem?_eq_getElem (by omega)⟩
      rw [gn_some hx]
      refine WP.iteE (fun he => ?_) (fun he => ?_)
      · rw [idxS_here hx he] at iv
        refine WP.up ?_
        rw [iv]
        exact WP.of hj2 rfl
      · rw [idxS_skip hx he] at iv
        (repeat' (first | with_reducible (first | refine WP.iteT ?_ | refine WP.iteF ?_ | refine WP.iteNb ?_ | refine WP.iteD (fun _ => ?_) (fun _ => ?_) | refine WP.iteE (fun _ => ?_) (fun _ => ?_) | refine WP.iteN (fun _ => ?_) (fun _ => ?_) | refine WP.iteB (fun _ => ?_) (fun _ => ?_)) | (with_reducible refine WP.ckI ?_ ?_; · omega) | (with_reducible refine WP.gn ?_ (fun _ _ => ?_); · omega) | (with_reducible refine WP.gt ?_ (fun _ _ => ?_); · omega) | with_reducible (first | refine WP.up ?_ | refine WP.letO ?_ | refine WP.ret ?_)))
        exact ⟨⟨by omega, iv⟩, by dsimp only; omega⟩
    · rw [idxS_end (by omega)] at iv
      unfold g_prizes_of_j4
      refine WP.up ?_
      rw [iv]
      exact WP.of hj2 rfl
  refine WP.eq ?_
  unfold g_prizes_of
  refine WP.loop (fun k => k ≤ ts.length ∧ idxT c (ts.drop k) k = idxT c ts 0) (fun k => ts.length - k) ?_ ⟨by omega, rfl⟩
  rintro k ⟨hk, iv⟩
  simp only [g_prizes_of_l7]
  refine WP.iteD (fun hlt => ?_) (fun hlt => ?_)
  · obtain ⟨x, hx⟩ : ∃ x, ts[k]? = some x := ⟨_, List.getElem?_eq_getElem (by omega)⟩
    rw [gn_some hx]
    refine WP.iteE (fun he => ?_) (fun he => ?_)
    · rw [idxT_here hx he] at iv
      refine WP.up ?_
      rw [iv]
      exact WP.of hj1 rfl
    · rw [idxT_skip hx he] at iv
      (repeat' (first | with_reducible (first | refine WP.iteT ?_ | refine WP.iteF ?_ | refine WP.iteNb ?_ | refine WP.iteD (fun _ => ?_) (fun _ => ?_) | refine WP.iteE (fun _ => ?_) (fun _ => ?_) | refine WP.iteN (fun _ => ?_) (fun _ => ?_) | refine WP.iteB (fun _ => ?_) (fun _ => ?_)) | (with_reducible refine WP.ckI ?_ ?_; · omega) | (with_reducible refine WP.gn ?_ (fun _ _ => ?_); · omega) | (with_reducible refine WP.gt ?_ (fun _ _ => ?_); · omega) | with_reducible (first | refine WP.up ?_ | refine WP.letO ?_ | refine WP.ret ?_)))
      exact ⟨⟨by omega, iv⟩, by dsimp only; omega⟩
  · rw [idxT_end (by omega)] at iv
    unfold g_prizes_of_j6
    refine WP.up ?_
    rw [iv]
    exact WP.of hj1 rfl
theorem rof_eq {ts : List Tab} {ss : List Sch} {c : Int} (h1 : ts.length ≤ 1000) (h2 : ss.length ≤ 1000) : g_ref42_of ts ss c = some (ofT ts ss c, ofS ts ss c, ofB ts ss c) := by
  refine WP.eq ?_
  unfold g_ref42_of
  refine WP.loop (fun i => i ≤ ts.length ∧ Past ts ss c i) (fun i => ts.length - i) ?_ ⟨by omega, .inl rfl⟩
  rintro i ⟨hi, hp⟩
  simp only [g_ref42_of_l2]
  refine WP.iteD (fun hlt => ?_) (fun hlt => ?_)
  · obtain ⟨x, hx⟩ : ∃ x, ts[i]? = some x := ⟨_, List.getElem?_eq_getElem (by omega)⟩
    refine WP.loop (fun k => k ≤ ss.length ∧ idxS c (ss.drop k) k = idxS c ss 0) (fun k => ss.length - k) ?_ ⟨by omega, rfl⟩
    rintro k ⟨hk, iv⟩
    simp only [g_ref42_of_l4]
    refine WP.iteD (fun hlt2 => ?_) (fun hlt2 => ?_)
    · rw [gn_some hx]
      by_cases hc : x.c = c
      · rw [show (x.c == c) = true by simpa using hc]
        obtain ⟨y, hy⟩ : ∃ y, ss[k]? = some y := ⟨_, List.getElem?_eq_getElem (by omega)⟩
        unfold g_ref42_of_j5
        refine WP.iteT ?_
        rw [gn_some hy]
        refine WP.iteE (fun he => ?_) (fun he => ?_)
        · rw [gn_some hx]
          obtain ⟨q1, q2, q3⟩ := past_hit hp iv hx hc hy he
          refine WP.up (WP.up (WP.ret ?_))
          show _ = _
          rw [q1, q2, q3]
        · rw [idxS_skip hy he] at iv
          (repeat' (first | with_reducible (first | refine WP.iteT ?_ | refine WP.iteF ?_ | refine WP.iteNb ?_ | refine WP.iteD (fun _ => ?_) (fun _ => ?_) | refine WP.iteE (fun _ => ?_) (fun _ => ?_) | refine WP.iteN (fun _ => ?_) (fun _ => ?_) | refine WP.iteB (fun _ => ?_) (fun _ => ?_)) | (with_reducible refine WP.ckI ?_ ?_; · omega) | (with_reducible refine WP.gn ?_ (fun _ _ => ?_); · omega) | (with_reducible refine WP.gt ?_ (fun _ _ => ?_); · omega) | with_reducible (first | refine WP.up ?_ | refine WP.letO ?_ | refine WP.ret ?_)))
          exact ⟨⟨by omega, iv⟩, by dsimp only; omega⟩
      · rw [show (x.c == c) = false by simpa using hc]
        unfold g_ref42_of_j5 g_ref42_of_j3
        (repeat' (first | with_reducible (first | refine WP.iteT ?_ | refine WP.iteF ?_ | refine WP.iteNb ?_ | refine WP.iteD (fun _ => ?_) (fun _ => ?_) | refine WP.iteE (fun _ => ?_) (fun _ => ?_) | refine WP.iteN (fun _ => ?_) (fun _ => ?_) | refine WP.iteB (fun _ => ?_) (fun _ => ?_)) | (with_reducible refine WP.ckI ?_ ?_; · omega) | (with_reducible refine WP.gn ?_ (fun _ _ => ?_); · omega) | (with_reducible refine WP.gt ?_ (fun _ _ => ?_); · omega) | with_reducible (first | refine WP.up ?_ | refine WP.letO ?_ | refine WP.ret ?_)))
        exact ⟨⟨by omega, past_skip hp hx hc⟩, by dsimp only; omega⟩
    · unfold g_ref42_of_j5 g_ref42_of_j3
      (repeat' (first | with_reducible (first | refine WP.iteT ?_ | refine WP.iteF ?_ | refine WP.iteNb ?_ | refine WP.iteD (fun _ => ?_) (fun _ => ?_) | refine WP.iteE (fun _ => ?_) (fun _ => ?_) | refine WP.iteN (fun _ => ?_) (fun _ => ?_) | refine WP.iteB (fun _ => ?_) (fun _ => ?_)) | (with_reducible refine WP.ckI ?_ ?_; · omega) | (with_reducible refine WP.gn ?_ (fun _ _ => ?_); · omega) | (with_reducible refine WP.gt ?_ (fun _ _ => ?_); · omega) | with_reducible (first | refine WP.up ?_ | refine WP.letO ?_ | refine WP.ret ?_)))
      exact ⟨⟨by omega, past_none iv (by omega)⟩, by dsimp only; omega⟩
  · have hb := past_end hp (by omega)
    unfold g_ref42_of_j1
    (repeat' (first | with_reducible (first | refine WP.iteT ?_ | refine WP.iteF ?_ | refine WP.iteNb ?_ | refine WP.iteD (fun _ => ?_) (fun _ => ?_) | refine WP.iteE (fun _ => ?_) (fun _ => ?_) | refine WP.iteN (fun _ => ?_) (fun _ => ?_) | refine WP.iteB (fun _ => ?_) (fun _ => ?_)) | (with_reducible refine WP.ckI ?_ ?_; · omega) | (with_reducible refine WP.gn ?_ (fun _ _ => ?_); · omega) | (with_reducible refine WP.gt ?_ (fun _ _ => ?_); · omega) | with_reducible (first | refine WP.up ?_ | refine WP.letO ?_ | refine WP.ret ?_)))
    rw [hb, ofT_no hb, ofS_no hb]; rfl
end Go.Proofs.YtoiiblkncbnlaaaGreat

/-
  Chapter 42: the clubs of the next season as the reference computes them. Conditions: those of each theorem.
-/
set_option linter.unusedVariables false
set_option linter.unusedSimpArgs false
namespace Go.Proofs.YtoiiblkncbnlaaaGreat
open Go.DL
set_option maxHeartbeats 4000000
theorem member_eq {l : List Int} {n : Int} (hl : l.length ≤ 1000) : g_ref42_member l n = some (l.contains n) := by
  refine WP.eq ?_
  unfold g_ref42_member
  refine WP.loop (fun k => k ≤ l.length ∧ (l.drop k).contains n = l.contains n) (fun k => l.length - k) ?_ ⟨by omega, rfl⟩
  rintro k ⟨hk, iv⟩
  simp only [g_ref42_member_l2]
  refine WP.iteD (fun hlt => ?_) (fun hlt => ?_)
  · obtain ⟨x, hx⟩ : ∃ x, l[k]? = some x := ⟨_, List.getElem?_eq_getElem (by omega)⟩
    rw [gn_some hx]
    refine WP.iteE (fun he => ?_) (fun he => ?_)
    · (repeat' (first | with_reducible (first | refine WP.iteT ?_ | refine WP.iteF ?_ | refine WP.iteNb ?_ | refine WP.iteD (fun _ => ?_) (fun _ => ?_) | refine WP.iteE (fun _ => ?_) (fun _ => ?_) | refine WP.iteN (fun _ => ?_) (fun _ => ?_) | refine WP.iteB (fun _ => ?_) (fun _ => ?_)) | (with_reducible refine WP.ckI ?_ ?_; · omega) | (with_reducible refine WP.gn ?_ (fun _ _ => ?_); · omega) | (with_reducible refine WP.gt ?_ (fun _ _ => ?_); · omega) | with_reducible (first | refine WP.up ?_ | refine WP.letO ?_ | refine WP.ret ?_)))
      exact (has_here iv hx he).symm
    · (repeat' (first | with_reducible (first | refine WP.iteT ?_ | refine WP.iteF ?_ | refine WP.iteNb ?_ | refine WP.iteD (fun _ => ?_) (fun _ => ?_) | refine WP.iteE (fun _ => ?_) (fun _ => ?_) | refine WP.iteN (fun _ => ?_) (fun _ => ?_) | refine WP.iteB (fun _ => ?_) (fun _ => ?_)) | (with_reducible refine WP.ckI ?_ ?_; · omega) | (with_reducible refine WP.gn ?_ (fun _ _ => ?_); · omega) | (with_reducible refine WP.gt ?_ (fun _ _ => ?_); · omega) | with_reducible (first | refine WP.up ?_ | refine WP.letO ?_ | refine WP.ret ?_)))
      exact ⟨⟨by omega, has_skip iv hx he⟩, by dsimp only; omega⟩
  · unfold g_ref42_member_j1
    (repeat' (first | with_reducible (first | refine WP.iteT ?_ | refine WP.iteF ?_ | refine WP.iteNb ?_ | refine WP.iteD (fun _ => ?_) (fun _ => ?_) | refine WP.iteE (fun _ => ?_) (fun _ => ?_) | refine WP.iteN (fun _ => ?_) (fun _ => ?_) | refine WP.iteB (fun _ => ?_) (fun _ => ?_)) | (with_reducible refine WP.ckI ?_ ?_; · omega) | (with_reducible refine WP.gn ?_ (fun _ _ => ?_); · omega) | (with_reducible refine WP.gt ?_ (fun _ _ => ?_); · omega) | with_reducible (first | refine WP.up ?_ | refine WP.letO ?_ | refine WP.ret ?_)))
    exact (has_end iv (by omega)).symm
theorem index_eq {l : List Int} {n : Int} (hl : l.length ≤ 1000) : WP (g_slices_Index_Lint_int l n) (fun r => decide (r ≥ 0) = l.contains n) := by
  unfold g_slices_Index_Lint_int
  refine WP.loop (fun k => k ≤ l.length ∧ (l.drop k).contains n = l.contains n) (fun k => l.length - k) ?_ ⟨by omega, rfl⟩
  rintro k ⟨hk, iv⟩
  simp only [g_slices_Index_Lint_int_l2]
  refine WP.iteD (fun hlt => ?_) (fun hlt => ?_)
  · obtain ⟨x, hx⟩ : ∃ x, l[k]? = some x := ⟨_, List.getElem?_eq_getElem (by omega)⟩
    rw [gn_some hx]
    refine WP.iteE (fun he => ?_) (fun he => ?_)
    · (repeat' (first | with_reducible (first | refine WP.iteT ?_ | refine WP.iteF ?_ | refine WP.iteNb ?_ | refine WP.iteD (fun _ => ?_) (fun _ => ?_) | refine WP.iteE (fun _ => ?_) (fun _ => ?_) | refine WP.iteN (fun _ => ?_) (fun _ => ?_) | refine WP.iteB (fun _ => ?_) (fun _ => ?_)) | (with_reducible refine WP.ckI ?_ ?_; · omega) | (with_reducible refine WP.gn ?_ (fun _ _ => ?_); · omega) | (with_reducible refine WP.gt ?_ (fun _ _ => ?_); · omega) | with_reducible (first | refine WP.up ?_ | refine WP.letO ?_ | refine WP.ret ?_)))
      show decide (((k : Nat) : Int) ≥ 0) = _
      rw [has_here iv hx he.symm]; exact decide_eq_true (by omega)
    · (repeat' (first | with_reducible (first | refine WP.iteT ?_ | refine WP.iteF ?_ | refine WP.iteNb ?_ | refine WP.iteD (fun _ => ?_) (fun _ => ?_) | refine WP.iteE (fun _ => ?_) (fun _ => ?_) | refine WP.iteN (fun _ => ?_) (fun _ => ?_) | refine WP.iteB (fun _ => ?_) (fun _ => ?_)) | (with_reducible refine WP.ckI ?_ ?_; · omega) | (with_reducible refine WP.gn ?_ (fun _ _ => ?_); · omega) | (with_reducible refine WP.gt ?_ (fun _ _ => ?_); · omega) | with_reducible (first | refine WP.up ?_ | refine WP.letO ?_ | refine WP.ret ?_)))
      exact ⟨⟨by omega, has_skip iv hx fun e => he e.symm⟩, by dsimp only; omega⟩
  · unfold g_slices_Index_Lint_int_j1
    (repeat' (first | with_reducible (first | refine WP.iteT ?_ | refine WP.iteF ?_ | refine WP.iteNb ?_ | refine WP.iteD (fun _ => ?_) (fun _ => ?_) | refine WP.iteE (fun _ => ?_) (fun _ => ?_) | refine WP.iteN (fun _ => ?_) (fun _ => ?_) | refine WP.iteB (fun _ => ?_) (fun _ => ?_)) | (with_reducible refine WP.ckI ?_ ?_; · omega) | (with_reducible refine WP.gn ?_ (fun _ _ => ?_); · omega) | (with_reducible refine WP.gt ?_ (fun _ _ => ?_); · omega) | with_reducible (first | refine WP.up ?_ | refine WP.letO ?_ | refine WP.ret ?_)))
    show decide ((-1 : Int) ≥ 0) = _
    rw [has_end iv (by omega)]; rfl
theorem contains_eq {l : List Int} {n : Int} (hl : l.length ≤ 1000) : g_slices_Contains_Lint_int l n = some (l.contains n) := by
  refine WP.eq ?_
  unfold g_slices_Contains_Lint_int
  refine WP.bdW ((index_eq (n := n) hl).mono fun r hr => ?_)
  exact WP.ret hr
theorem comeL_len {ts : List Tab} {ss : List Sch} {c : Int} (h : ∀ t ∈ ts, t.l.length ≤ 30) : (comeL ts ss c).length ≤ 90 := by
  have h1 := ofT_len (ss := ss) h c
  have h2 : (aboveL ts ss (ofS ts ss c).ab).length ≤ 30 := by
    unfold aboveL; split
    · simp
    · have := downM_length (ofT ts ss (ofS ts ss c).ab) (ofS ts ss (ofS ts ss c).ab); have := ofT_len (ss := ss) h (ofS ts ss c).ab; omega
  have h3 : (belowL ts ss (ofS ts ss c).be).length ≤ 30 := by
    unfold belowL; split
    · simp
    · have := upM_length (ofT ts ss (ofS ts ss c).be) (ofS ts ss (ofS ts ss c).be); have := ofT_len (ss := ss) h (ofS ts ss c).be; omega
  have h4 : (restL (ofT ts ss c) (ofS ts ss c)).length ≤ 30 := by
    have := List.length_filter_le (stays (ofT ts ss c) (ofS ts ss c)) ((ofT ts ss c).l.map clubOf)
    unfold restL; simp at this ⊢; omega
  simp only [comeL, List.length_append]; omega
section
variable {ts : List Tab} {ss : List Sch} {c : Int}
theorem rnext_j3 (hpre : preE ts ss c = 0) (hl : (comeL ts ss c).length ≤ 90) : g_ref42_Next_j3 (comeL ts ss c) = some (nextL ts ss c, nextE ts ss c) := by
  have bad : ¬ ((comeL ts ss c).Nodup ∧ 2 ≤ (comeL ts ss c).length ∧ (comeL ts ss c).length ≤ 24) → (([] : List Int), (190 : Int)) = (nextL ts ss c, nextE ts ss c) := fun h => by
    have e := nextE_190 hpre h
    rw [nextL_nil e (by omega), e]
  refine WP.eq ?_
  unfold g_ref42_Next_j3
  refine WP.loop (fun v => v.2 ≤ (comeL ts ss c).length ∧ v.1 = insAllI ((comeL ts ss c).take v.2) ∧ ((comeL ts ss c).take v.2).Nodup) (fun v => (comeL ts ss c).length - v.2) ?_ ⟨by simp, by simp [insAllI], by simp⟩
  rintro ⟨o, k⟩ ⟨hk, iv, hn⟩
  dsimp only at hk iv hn ⊢
  have ho : o.length = k := by rw [iv, insAllI_length]; simp; omega
  simp only [g_ref42_Next_l6]
  refine WP.iteD (fun hlt => ?_) (fun hlt => ?_)
  · obtain ⟨x, hx⟩ : ∃ x, (comeL ts ss c)[k]? = some x := ⟨_, List.getElem?_eq_getElem (by omega)⟩
    rw [gn_some hx]
    refine WP.bd (member_eq (by omega)) ?_
    refine WP.iteB (fun h => ?_) (fun h => ?_)
    · (repeat' (first | with_reducible (first | refine WP.iteT ?_ | refine WP.iteF ?_ | refine WP.iteNb ?_ | refine WP.iteD (fun _ => ?_) (fun _ => ?_) | refine WP.iteE (fun _ => ?_) (fun _ => ?_) | refine WP.iteN (fun _ => ?_) (fun _ => ?_) | refine WP.iteB (fun _ => ?_) (fun _ => ?_)) | (with_reducible refine WP.ckI ?_ ?_; · omega) | (with_reducible refine WP.gn ?_ (fun _ _ => ?_); · omega) | (with_reducible refine WP.gt ?_ (fun _ _ => ?_); · omega) | with_reducible (first | refine WP.up ?_ | refine WP.letO ?_ | refine WP.ret ?_)))
      exact bad fun g => ord_twice iv hx h g.1
    · refine WP.bd (with_eq (by omega)) ?_
      obtain ⟨q1, q2⟩ := ord_step iv hn hx h
      (repeat' (first | with_reducible (first | refine WP.iteT ?_ | refine WP.iteF ?_ | refine WP.iteNb ?_ | refine WP.iteD (fun _ => ?_) (fun _ => ?_) | refine WP.iteE (fun _ => ?_) (fun _ => ?_) | refine WP.iteN (fun _ => ?_) (fun _ => ?_) | refine WP.iteB (fun _ => ?_) (fun _ => ?_)) | (with_reducible refine WP.ckI ?_ ?_; · omega) | (with_reducible refine WP.gn ?_ (fun _ _ => ?_); · omega) | (with_reducible refine WP.gt ?_ (fun _ _ => ?_); · omega) | with_reducible (first | refine WP.up ?_ | refine WP.letO ?_ | refine WP.ret ?_)))
      exact ⟨⟨by dsimp only; omega, q1, q2⟩, by dsimp only; omega⟩
  · rw [List.take_of_length_le (by omega)] at iv hn
    unfold g_ref42_Next_j4
    have j5 : ∀ b, (b = true ↔ (comeL ts ss c).length < 2 ∨ 24 < (comeL ts ss c).length) → WP (g_ref42_Next_j5 o b) (fun z => z = (nextL ts ss c, nextE ts ss c)) := fun b hb => by
      unfold g_ref42_Next_j5
      cases b
      · have e : nextE ts ss c = 0 := nextE_0 hpre ⟨hn, by
          have : ¬ ((comeL ts ss c).length < 2 ∨ 24 < (comeL ts ss c).length) := fun h => by cases hb.2 h
          omega⟩
        (repeat' (first | with_reducible (first | refine WP.iteT ?_ | refine WP.iteF ?_ | refine WP.iteNb ?_ | refine WP.iteD (fun _ => ?_) (fun _ => ?_) | refine WP.iteE (fun _ => ?_) (fun _ => ?_) | refine WP.iteN (fun _ => ?_) (fun _ => ?_) | refine WP.iteB (fun _ => ?_) (fun _ => ?_)) | (with_reducible refine WP.ckI ?_ ?_; · omega) | (with_reducible refine WP.gn ?_ (fun _ _ => ?_); · omega) | (with_reducible refine WP.gt ?_ (fun _ _ => ?_); · omega) | with_reducible (first | refine WP.up ?_ | refine WP.letO ?_ | refine WP.ret ?_)))
        rw [nextL_ok e, e, iv, insAllI_eq]
      · have := hb.1 rfl
        (repeat' (first | with_reducible (first | refine WP.iteT ?_ | refine WP.iteF ?_ | refine WP.iteNb ?_ | refine WP.iteD (fun _ => ?_) (fun _ => ?_) | refine WP.iteE (fun _ => ?_) (fun _ => ?_) | refine WP.iteN (fun _ => ?_) (fun _ => ?_) | refine WP.iteB (fun _ => ?_) (fun _ => ?_)) | (with_reducible refine WP.ckI ?_ ?_; · omega) | (with_reducible refine WP.gn ?_ (fun _ _ => ?_); · omega) | (with_reducible refine WP.gt ?_ (fun _ _ => ?_); · omega) | with_reducible (first | refine WP.up ?_ | refine WP.letO ?_ | refine WP.ret ?_)))
        exact bad fun g => by omega
    have hol : o.length = (comeL ts ss c).length := by rw [iv, insAllI_length]
    (repeat' (first | with_reducible (first | refine WP.iteT ?_ | refine WP.iteF ?_ | refine WP.iteNb ?_ | refine WP.iteD (fun _ => ?_) (fun _ => ?_) | refine WP.iteE (fun _ => ?_) (fun _ => ?_) | refine WP.iteN (fun _ => ?_) (fun _ => ?_) | refine WP.iteB (fun _ => ?_) (fun _ => ?_)) | (with_reducible refine WP.ckI ?_ ?_; · omega) | (with_reducible refine WP.gn ?_ (fun _ _ => ?_); · omega) | (with_reducible refine WP.gt ?_ (fun _ _ => ?_); · omega) | with_reducible (first | refine WP.up ?_ | refine WP.letO ?_ | refine WP.ret ?_)))
    all_goals refine j5 _ ?_
    all_goals try simp only [decide_eq_true_eq, true_iff]
    all_goals omega
theorem rnext_j2 {l : List Int} (hpre : preE ts ss c = 0) (hfew : ∀ t ∈ ts, t.l.length ≤ 30) (hl : l = aboveL ts ss (ofS ts ss c).ab ++ belowL ts ss (ofS ts ss c).be) :
    g_ref42_Next_j2 (ofT ts ss c, ofS ts ss c, true) (upM (ofT ts ss c) (ofS ts ss c), downM (ofT ts ss c) (ofS ts ss c), 0) l = some (nextL ts ss c, nextE ts ss c) := by
  have hcl := comeL_len (ss := ss) (c := c) hfew
  have hle : l.length ≤ 90 := by
    simp only [comeL, List.length_append] at hcl
    rw [hl, List.length_append]; omega
  have hT := ofT_len (ss := ss) hfew c
  have hu := upM_length (ofT ts ss c) (ofS ts ss c)
  have hd := downM_length (ofT ts ss c) (ofS ts ss c)
  refine WP.eq ?_
  unfold g_ref42_Next_j2
  refine WP.loop (fun v => v.1 ≤ (ofT ts ss c).l.length ∧ v.2.length ≤ l.length + v.1 ∧ v.2 = l ++ (((ofT ts ss c).l.take v.1).map clubOf).filter (stays (ofT ts ss c) (ofS ts ss c))) (fun v => (ofT ts ss c).l.length - v.1) ?_ ⟨by simp, by simp, by simp⟩
  rintro ⟨k, o⟩ ⟨hk, hol, iv⟩
  dsimp only at hk hol iv ⊢
  simp only [g_ref42_Next_l7]
  refine WP.iteD (fun hlt => ?_) (fun hlt => ?_)
  · obtain ⟨x, hx⟩ : ∃ x, (ofT ts ss c).l[k]? = some x := ⟨_, List.getElem?_eq_getElem (by omega)⟩
    rw [gn_some hx]
    refine WP.bd (member_eq (by omega)) ?_
    have j9 : ∀ b, b = stays (ofT ts ss c) (ofS ts ss c) x.r.c → WP (g_ref42_Next_j9 o x k (upM (ofT ts ss c) (ofS ts ss c), downM (ofT ts ss c) (ofS ts ss c), 0) (ofT ts ss c, ofS ts ss c, true) b) (Rnd (fun v : Nat × List Int => v.1 ≤ (ofT ts ss c).l.length ∧ v.2.length ≤ l.length + v.1 ∧ v.2 = l ++ (((ofT ts ss c).l.take v.1).map clubOf).filter (stays (ofT ts ss c) (ofS ts ss c))) (fun v => (ofT ts ss c).l.length - v.1) ((ofT ts ss c).l.length - k) fun z => z = (nextL ts ss c, nextE ts ss c)) := fun b hb => by
      unfold g_ref42_Next_j9 g_ref42_Next_j8
      cases b
      · (repeat' (first | with_reducible (first | refine WP.iteT ?_ | refine WP.iteF ?_ | refine WP.iteNb ?_ | refine WP.iteD (fun _ => ?_) (fun _ => ?_) | refine WP.iteE (fun _ => ?_) (fun _ => ?_) | refine WP.iteN (fun _ => ?_) (fun _ => ?_) | refine WP.iteB (fun _ => ?_) (fun _ => ?_)) | (with_reducible refine WP.ckI ?_ ?_; · omega) | (with_reducible refine WP.gn ?_ (fun _ _ => ?_); · omega) | (with_reducible refine WP.gt ?_ (fun _ _ => ?_); · omega) | with_reducible (first | refine WP.up ?_ | refine WP.letO ?_ | refine WP.ret ?_)))
        exact ⟨⟨by dsimp only; omega, by dsimp only; omega, rest_skip iv hx hb.symm⟩, by dsimp only; omega⟩
      · refine WP.iteT ?_
        refine WP.ck (by simp only [List.length_cons, List.length_nil]; omega) ?_
        (repeat' (first | with_reducible (first | refine WP.iteT ?_ | refine WP.iteF ?_ | refine WP.iteNb ?_ | refine WP.iteD (fun _ => ?_) (fun _ => ?_) | refine WP.iteE (fun _ => ?_) (fun _ => ?_) | refine WP.iteN (fun _ => ?_) (fun _ => ?_) | refine WP.iteB (fun _ => ?_) (fun _ => ?_)) | (with_reducible refine WP.ckI ?_ ?_; · omega) | (with_reducible refine WP.gn ?_ (fun _ _ => ?_); · omega) | (with_reducible refine WP.gt ?_ (fun _ _ => ?_); · omega) | with_reducible (first | refine WP.up ?_ | refine WP.letO ?_ | refine WP.ret ?_)))
        exact ⟨⟨by dsimp only; omega, by dsimp only; rw [List.length_append]; simp only [List.length_cons, List.length_nil]; omega, rest_step iv hx hb.symm⟩, by dsimp only; omega⟩
    have e : stays (ofT ts ss c) (ofS ts ss c) x.r.c = (!(upM (ofT ts ss c) (ofS ts ss c)).contains x.r.c && !(downM (ofT ts ss c) (ofS ts ss c)).contains x.r.c) := rfl
    cases h1 : (upM (ofT ts ss c) (ofS ts ss c)).contains x.r.c
    · refine WP.iteNb (WP.iteF ?_)
      refine WP.bd (member_eq (by omega)) ?_
      refine j9 _ ?_
      rw [e, h1]; rfl
    · refine WP.iteNb (WP.iteT ?_)
      refine j9 _ ?_
      rw [e, h1]; rfl
  · have hc : o = comeL ts ss c := by
      rw [rest_all iv (by omega), hl]; rfl
    refine WP.up ?_
    rw [hc]
    exact WP.of (rnext_j3 hpre hcl) rfl
theorem rnext_eq (h1 : ts.length ≤ 1000) (h2 : ss.length ≤ 1000) (hft : ∀ t ∈ ts, t.l.length ≤ 30) : g_ref42_Next ts ss c = some (nextL ts ss c, nextE ts ss c) := by
  refine WP.eq ?_
  have bad : ∀ e : Int, nextE ts ss c = e → e ≠ 0 → (([] : List Int), e) = (nextL ts ss c, nextE ts ss c) := fun e he h0 => by rw [nextL_nil he h0, he]
  have hlen := fun n => ofT_len (ss := ss) hft n
  unfold g_ref42_Next
  refine WP.bd (rof_eq h1 h2) ?_
  dsimp only
  cases hb : ofB ts ss c
  · refine WP.iteNb (WP.iteF (WP.ret ?_))
    exact bad 420 (err_1 hb) (by omega)
  refine WP.iteNb (WP.iteT ?_)
  refine WP.bd (rmoves_eq (by have := hlen c; omega)) ?_
  dsimp only
  refine WP.iteN (fun hm => ?_) (fun hm => ?_)
  · exact WP.ret (bad _ (err_2 hb hm) hm)
  rw [hm]
  have j1 : aboveE ts ss c = 0 → WP (g_ref42_Next_j1 (ofT ts ss c, ofS ts ss c, true) ts ss (upM (ofT ts ss c) (ofS ts ss c), downM (ofT ts ss c) (ofS ts ss c), 0) c (aboveL ts ss (ofS ts ss c).ab)) (fun z => z = (nextL ts ss c, nextE ts ss c)) := fun ha => by
    unfold g_ref42_Next_j1
    dsimp only
    have hal : (aboveL ts ss (ofS ts ss c).ab).length ≤ 90 := by
      have := comeL_len (ss := ss) (c := c) hft
      simp only [comeL, List.length_append] at this; omega
    refine WP.iteN (fun hn => ?_) (fun hn => ?_)
    · refine WP.bd (rof_eq h1 h2) ?_
      dsimp only
      have j10t : (ofB ts ss (ofS ts ss c).be = false ∨ (ofT ts ss (ofS ts ss c).be).s ≠ (ofT ts ss c).s ∨ (ofS ts ss (ofS ts ss c).be).ab ≠ c) → ∀ r l r4 r7, WP (g_ref42_Next_j10 r l r4 r7 true) (fun z => z = (nextL ts ss c, nextE ts ss c)) := fun hd r l r4 r7 => by
        unfold g_ref42_Next_j10
        refine WP.iteT (WP.ret ?_)
        exact bad 420 (err_5 hb hm ha hn hd) (by omega)
      cases hb2 : ofB ts ss (ofS ts ss c).be
      · refine WP.iteNb (WP.iteF ?_)
        exact j10t (.inl hb2) _ _ _ _
      refine WP.iteNb (WP.iteT ?_)
      refine WP.iteN (fun h3 => j10t (.inr (.inl h3)) _ _ _ _) (fun h3 => ?_)
      by_cases h4 : (ofS ts ss (ofS ts ss c).be).ab = c
      · rw [show ((ofS ts ss (ofS ts ss c).be).ab != c) = false by simpa using h4]
        unfold g_ref42_Next_j10
        refine WP.iteF ?_
        refine WP.bd (rmoves_eq (by have := hlen (ofS ts ss c).be; dsimp only; omega)) ?_
        dsimp only
        refine WP.iteN (fun hm2 => ?_) (fun hm2 => ?_)
        · exact WP.ret (bad _ (err_6 hb hm ha hn hb2 h3 h4 hm2) hm2)
        have hul := upM_length (ofT ts ss (ofS ts ss c).be) (ofS ts ss (ofS ts ss c).be)
        have := hlen (ofS ts ss c).be
        refine WP.ck (by omega) ?_
        have hbe : belowE ts ss c = 0 := (sideE_ok hn hb2 h3 h4).trans hm2
        refine WP.of (rnext_j2 ((preE_4 hb hm ha).trans hbe) hft ?_) rfl
        rw [belowL, if_neg hn]
      · rw [show ((ofS ts ss (ofS ts ss c).be).ab != c) = true by simpa using h4]
        exact j10t (.inr (.inr h4)) _ _ _ _
    · have hbe : belowE ts ss c = 0 := sideE_skip hn
      refine WP.of (rnext_j2 ((preE_4 hb hm ha).trans hbe) hft ?_) rfl
      rw [belowL, if_pos hn, List.append_nil]
  refine WP.iteN (fun hn => ?_) (fun hn => ?_)
  · refine WP.bd (rof_eq h1 h2) ?_
    dsimp only
    have j11t : (ofB ts ss (ofS ts ss c).ab = false ∨ (ofT ts ss (ofS ts ss c).ab).s ≠ (ofT ts ss c).s ∨ (ofS ts ss (ofS ts ss c).ab).be ≠ c) → ∀ r r4 r7, WP (g_ref42_Next_j11 r r4 ts ss r7 c true) (fun z => z = (nextL ts ss c, nextE ts ss c)) := fun hd r r4 r7 => by
      unfold g_ref42_Next_j11
      refine WP.iteT (WP.ret ?_)
      exact bad 420 (err_3 hb hm hn hd) (by omega)
    cases hb2 : ofB ts ss (ofS ts ss c).ab
    · refine WP.iteNb (WP.iteF ?_)
      exact j11t (.inl hb2) _ _ _
    refine WP.iteNb (WP.iteT ?_)
    refine WP.iteN (fun h3 => j11t (.inr (.inl h3)) _ _ _) (fun h3 => ?_)
    by_cases h4 : (ofS ts ss (ofS ts ss c).ab).be = c
    · rw [show ((ofS ts ss (ofS ts ss c).ab).be != c) = false by simpa using h4]
      unfold g_ref42_Next_j11
      refine WP.iteF ?_
      refine WP.bd (rmoves_eq (by have := hlen (ofS ts ss c).ab; dsimp only; omega)) ?_
      dsimp only
      refine WP.iteN (fun hm2 => ?_) (fun hm2 => ?_)
      · exact WP.ret (bad _ (err_4 hb hm hn hb2 h3 h4 hm2) hm2)
      have hul := downM_length (ofT ts ss (ofS ts ss c).ab) (ofS ts ss (ofS ts ss c).ab)
      have := hlen (ofS ts ss c).ab
      refine WP.ck (by omega) ?_
      have hae : aboveE ts ss c = 0 := (sideE_ok hn hb2 h3 h4).trans hm2
      have := j1 hae
      rw [aboveL, if_neg hn] at this
      exact this
    · rw [show ((ofS ts ss (ofS ts ss c).ab).be != c) = true by simpa using h4]
      exact j11t (.inr (.inr h4)) _ _ _
  · have := j1 (sideE_skip hn)
    rw [aboveL, if_pos hn] at this
    exact this
end
end Go.Proofs.YtoiiblkncbnlaaaGreat

/-
  Chapter 42: the clubs of the next season as the program computes them. Conditions: those of each theorem.
-/
set_option linter.unusedVariables false
set_option linter.unusedSimpArgs false
namespace Go.Proofs.YtoiiblkncbnlaaaGreat
open Go.DL
set_option maxHeartbeats 4000000
/-! ### sets of numbers -/
def setL (l : List Int) : List Int := l.foldl sput []
theorem setL_snoc (l : List Int) (n : Int) : setL (l ++ [n]) = sput (setL l) n := by simp [setL]
theorem setF_facts (l : List Int) : ∀ o : List Int, o.Pairwise (· < ·) → (l.foldl sput o).Pairwise (· < ·) ∧ (∀ x, x ∈ l.foldl sput o ↔ x ∈ o ∨ x ∈ l) ∧ (l.foldl sput o).length ≤ o.length + l.length ∧ ((l.foldl sput o).length = o.length + l.length ↔ l.Nodup ∧ ∀ x ∈ l, x ∉ o) := by
  induction l with
  | nil => intro o h; exact ⟨h, by simp, by simp, by simp⟩
  | cons a l ih =>
    intro o h
    obtain ⟨h1, h2, h3, h4⟩ := ih (sput o a) (sput_sorted h)
    have h5 := sput_le a o
    refine ⟨h1, fun x => ?_, by simp only [List.foldl_cons, List.length_cons]; omega, ?_⟩
    · simp only [List.foldl_cons]
      rw [h2, mem_sput, List.mem_cons]
      constructor
      · rintro ((rfl | h) | h)
        · exact .inr (.inl rfl)
        · exact .inl h
        · exact .inr (.inr h)
      · rintro (h | rfl | h)
        · exact .inl (.inr h)
        · exact .inl (.inl rfl)
        · exact .inr h
    · simp only [List.foldl_cons, List.length_cons]
      rw [List.nodup_cons]
      by_cases ha : a ∈ o
      · rw [sput_old h ha] at h3 h4
        constructor
        · intro h6; omega
        · rintro ⟨_, h7⟩; exact absurd ha (h7 a (by simp))
      · have hn := sput_new ha
        rw [hn] at h4
        constructor
        · intro h6
          obtain ⟨h7, h8⟩ := h4.1 (by omega)
          refine ⟨⟨fun hc => h8 a hc (mem_sput.2 (.inl rfl)), h7⟩, fun x hx => ?_⟩
          rcases List.mem_cons.1 hx with rfl | hx
          · exact ha
          · exact fun hxo => h8 x hx (mem_sput.2 (.inr hxo))
        · rintro ⟨⟨h6, h7⟩, h8⟩
          have := h4.2 ⟨h7, fun x hx hxo => by
            rcases mem_sput.1 hxo with rfl | h9
            · exact h6 hx
            · exact h8 x (by simp [hx]) h9⟩
          omega
theorem setL_facts (l : List Int) : (setL l).Pairwise (· < ·) ∧ (∀ x, x ∈ setL l ↔ x ∈ l) ∧ (setL l).length ≤ l.length ∧ ((setL l).length = l.length ↔ l.Nodup) := by
  obtain ⟨h1, h2, h3, h4⟩ := setF_facts l [] List.Pairwise.nil
  unfold setL
  exact ⟨h1, by simpa using h2, by simpa using h3, by simpa using h4⟩
theorem srtI_sorted (l : List Int) : (srtI l).Pairwise (· ≤ ·) :=
  (List.pairwise_mergeSort (le := fun x y => decide (x ≤ y)) (fun a b c h1 h2 => by simp at *; omega) (fun a b => by simp; omega) l).imp fun h => by simpa using h
theorem sorted_uniq {l d : List Int} (h1 : l.Pairwise (· ≤ ·)) (h2 : d.Pairwise (· ≤ ·)) (h : l.Perm d) : l = d :=
  h.eq_of_pairwise (fun a b _ _ h1 h2 => by omega) h1 h2
theorem setL_srtI {l : List Int} (h : l.Nodup) : setL l = srtI l := by
  obtain ⟨h1, h2, h3, h4⟩ := setL_facts l
  refine sorted_uniq (h1.imp fun h => by omega) (srtI_sorted l) ?_
  refine List.Perm.trans ?_ (srtI_perm l).symm
  refine (List.perm_ext_iff_of_nodup (h1.imp fun h => by omega) h).2 h2
theorem srtI_congr {l d : List Int} (h : l.Perm d) : srtI l = srtI d :=
  sorted_uniq (srtI_sorted l) (srtI_sorted d) ((srtI_perm l).trans (h.trans (srtI_perm d).symm))
/-! ### the range of clubs -/
theorem plOK_row : ∀ (l : List Place) (k : Nat) (q : Place) (seen : List Int), plOK k q seen l = true → ∀ p ∈ l, rowOK p.r = true
  | [], _, _, _, _ => by simp
  | p :: l, k, q, seen, h => by
    rw [plOK] at h
    split at h
    · rename_i hp
      intro x hx
      rcases List.mem_cons.1 hx with rfl | hx
      · exact hp.2.2.1
      · exact plOK_row l (k + 1) p _ h x hx
    · cases h
theorem chk_range {t : Tab} (h : chkT t = 0) : ∀ x ∈ t.l.map clubOf, 0 ≤ x ∧ x ≤ 191 := by
  rcases chkT_cases t with h1 | ⟨_, _, h1⟩
  · omega
  · intro x hx
    obtain ⟨p, hp, rfl⟩ := List.mem_map.1 hx
    exact rowOK_c (plOK_row _ _ _ _ h1 p hp)
theorem movE_chk {t : Tab} {s : Sch} (h : movE t s = 0) : fitS t s = 0 ∧ chkT t = 0 := by
  have : fitS t s = 0 := by
    by_cases h1 : fitS t s = 0
    · exact h1
    · rw [movE_bad h1] at h; exact absurd h h1
  exact ⟨this, (fitS_ok this).1⟩
theorem upM_sub {t : Tab} {s : Sch} (h : movE t s = 0) : ∀ x ∈ upM t s, x ∈ t.l.map clubOf := by
  intro x hx
  rw [upM_ok h, clubsL] at hx
  have := (srtI_perm _).mem_iff.1 hx
  rw [List.map_take] at this
  exact List.mem_of_mem_take this
theorem downM_sub {t : Tab} {s : Sch} (h : movE t s = 0) : ∀ x ∈ downM t s, x ∈ t.l.map clubOf := by
  intro x hx
  rw [downM_ok h, clubsL] at hx
  have := (srtI_perm _).mem_iff.1 hx
  rw [List.map_drop] at this
  exact List.mem_of_mem_drop this
section
variable {ts : List Tab} {ss : List Sch} {c : Int}
theorem next_j5 {l : List Int} (hpre : preE ts ss c = 0) (hl : l.Perm (comeL ts ss c)) (hlen : l.length ≤ 1000) : WP (g_prizes_Next_j5 l.length (setL l)) (fun z => z = (nextL ts ss c, nextE ts ss c)) := by
  obtain ⟨h1, h2, h3, h4⟩ := setL_facts l
  have hn : l.Nodup ↔ (comeL ts ss c).Nodup := hl.nodup_iff
  have hll := hl.length_eq
  have j6 : ∀ b, (b = true ↔ ¬ (l.Nodup ∧ 2 ≤ l.length ∧ l.length ≤ 24)) → WP (g_prizes_Next_j6 (setL l) b) (fun z => z = (nextL ts ss c, nextE ts ss c)) := fun b hb => by
    unfold g_prizes_Next_j6
    cases b
    · have hg : l.Nodup ∧ 2 ≤ l.length ∧ l.length ≤ 24 := by
        by_cases h : l.Nodup ∧ 2 ≤ l.length ∧ l.length ≤ 24
        · exact h
        · cases hb.2 h
      have e : nextE ts ss c = 0 := nextE_0 hpre ⟨hn.1 hg.1, by omega, by omega⟩
      refine WP.iteF (WP.ck h1 (WP.ck (by omega) (WP.ret ?_)))
      rw [nextL_ok e, e, setL_srtI hg.1, srtI_congr hl]
    · have hg := hb.1 rfl
      refine WP.iteT (WP.ret ?_)
      have e : nextE ts ss c = 190 := nextE_190 hpre (by rw [← hn, ← hll]; exact hg)
      rw [nextL_nil e (by omega), e]
  unfold g_prizes_Next_j5
  refine WP.iteN (fun h => ?_) (fun h => ?_)
  · refine j6 _ ?_
    simp only [true_iff]
    intro hg; exact h (by have := h4.2 hg.1; omega)
  have hnd := h4.1 (by omega)
  refine WP.iteD (fun h5 => ?_) (fun h5 => ?_)
  · refine j6 _ ?_
    simp only [true_iff]; omega
  · refine j6 _ ?_
    rw [decide_eq_true_eq]
    constructor
    · omega
    · intro hg
      by_cases h6 : l.length ≤ 24
      · exact absurd ⟨hnd, by omega, h6⟩ hg
      · omega
/-- What the clubs of one list leave: they are counted and put into the set. -/
theorem next_j4 {pre l : List Int} {n : Nat} (hpre : preE ts ss c = 0) (hn : n ≤ l.length) (hr : ∀ x ∈ l.take n, 0 ≤ x ∧ x ≤ 191) (hl : (pre ++ l.take n).Perm (comeL ts ss c)) (hlen : pre.length + n ≤ 1000) :
    WP (g_prizes_Next_j4 pre.length (setL pre) 0 n l) (fun z => z = (nextL ts ss c, nextE ts ss c)) := by
  have hin : (l.take n).length = n := by simp; omega
  unfold g_prizes_Next_j4
  refine WP.loop (fun v => v.1 ≤ n ∧ v.2.1 = (pre ++ (l.take n).take v.1).length ∧ v.2.2 = setL (pre ++ (l.take n).take v.1)) (fun v => n - v.1) ?_ ⟨by simp, by simp, by simp⟩
  rintro ⟨k, m, o⟩ ⟨hk, im, io⟩
  dsimp only at hk im io ⊢
  have hm : m = pre.length + k := by rw [im, List.length_append, List.length_take, hin]; omega
  simp only [g_prizes_Next_l7]
  refine WP.iteD (fun hlt => ?_) (fun hlt => ?_)
  · refine WP.ck (by omega) ?_
    obtain ⟨x, hx⟩ : ∃ x, (l.take n)[k]? = some x := ⟨_, List.getElem?_eq_getElem (by omega)⟩
    have hx2 : l[0 + k]? = some x := by rw [List.getElem?_take_of_lt (by omega)] at hx; rw [Nat.zero_add]; exact hx
    rw [gn_some hx2]
    have hxr := hr x (List.mem_of_getElem? hx)
    have hol := (setL_facts (pre ++ (l.take n).take k)).2.2.1
    rw [← im] at hol
    rw [← io] at hol
    refine WP.ckI (by omega) ?_
    refine WP.ck (by simp only [maxLen]; omega) ?_
    (repeat' (first | with_reducible (first | refine WP.iteT ?_ | refine WP.iteF ?_ | refine WP.iteNb ?_ | refine WP.iteD (fun _ => ?_) (fun _ => ?_) | refine WP.iteE (fun _ => ?_) (fun _ => ?_) | refine WP.iteN (fun _ => ?_) (fun _ => ?_) | refine WP.iteB (fun _ => ?_) (fun _ => ?_)) | (with_reducible refine WP.ckI ?_ ?_; · omega) | (with_reducible refine WP.gn ?_ (fun _ _ => ?_); · omega) | (with_reducible refine WP.gt ?_ (fun _ _ => ?_); · omega) | with_reducible (first | refine WP.up ?_ | refine WP.letO ?_ | refine WP.ret ?_)))
    refine ⟨⟨by dsimp only; omega, ?_, ?_⟩, by dsimp only; omega⟩
    · dsimp only
      rw [take_snoc hx, ← List.append_assoc, List.length_append, ← im]; rfl
    · dsimp only
      rw [take_snoc hx, ← List.append_assoc, setL_snoc, io]
  · have hkn : k = n := by omega
    subst hkn
    rw [List.take_take, Nat.min_self] at im io
    refine WP.up ?_
    rw [im, io]
    exact next_j5 hpre hl (by rw [List.length_append, hin]; omega)
/-- The clubs that stay are moved to the front. -/
theorem next_rest {pre l up down : List Int} {p : Int → Bool} (hp : ∀ x, p x = (!up.contains x && !down.contains x)) (hpre : preE ts ss c = 0) (hr : ∀ x ∈ l, 0 ≤ x ∧ x ≤ 191) (hl : (pre ++ l.filter p).Perm (comeL ts ss c)) (hlen : pre.length + l.length ≤ 1000) (hu : up.length ≤ 1000) (hd : down.length ≤ 1000) :
    WP (g_prizes_Next_j3 (up, down, 0) pre.length (setL pre) l) (fun z => z = (nextL ts ss c, nextE ts ss c)) := by
  have key : ∀ x, (if up.contains x = true then true else down.contains x) = !p x := fun x => by
    rw [hp]; cases up.contains x <;> cases down.contains x <;> rfl
  unfold g_prizes_Next_j3
  refine WP.loop (fun k => k ≤ l.length ∧ (l.take k).filter p = l.take k) (fun k => l.length - k) ?_ ⟨by omega, by simp⟩
  rintro k ⟨hk, iv⟩
  simp only [g_prizes_Next_l14]
  refine WP.iteD (fun hlt => ?_) (fun hlt => ?_)
  · obtain ⟨x, hx⟩ : ∃ x, l[k]? = some x := ⟨_, List.getElem?_eq_getElem (by omega)⟩
    rw [gn_some hx]
    have j15 : ∀ b, b = (!p x) → WP (g_prizes_Next_j15 pre.length (setL pre) l (up, down, 0) k b) (Rnd (fun k : Nat => k ≤ l.length ∧ (l.take k).filter p = l.take k) (fun k => l.length - k) (l.length - k) fun z => z = (nextL ts ss c, nextE ts ss c)) := fun b hb => by
      unfold g_prizes_Next_j15
      cases hpx : p x
      · rw [hpx] at hb
        subst hb
        refine WP.iteT (WP.up ?_)
        show WP _ (fun z => z = (nextL ts ss c, nextE ts ss c))
        unfold g_prizes_Next_j8
        refine WP.iteE (fun h => absurd h (by omega)) (fun _ => ?_)
        refine WP.ckI (by omega) ?_
        refine WP.loop (fun v => ∃ I J : Nat, v.1 = (I : Int) ∧ v.2.1 = (J : Int) ∧ I < J ∧ J ≤ l.length ∧ v.2.2.length = l.length ∧ v.2.2.take I = (l.take J).filter p ∧ v.2.2.drop J = l.drop J) (fun v => l.length - v.2.1.toNat) ?_ ⟨k, k + 1, rfl, by dsimp only; omega, by omega, by omega, rfl, by rw [take_snoc hx, List.filter_append, iv, List.filter_cons, hpx]; simp, rfl⟩
        rintro ⟨i, j, o⟩ ⟨I, J, rfl, rfl, hIJ, hJ, hol, it, id⟩
        dsimp only at hol it id ⊢
        simp only [g_prizes_Next_l10]
        refine WP.iteD (fun hlt2 => ?_) (fun hlt2 => ?_)
        · obtain ⟨y, hy⟩ : ∃ y, l[J]? = some y := ⟨_, List.getElem?_eq_getElem (by omega)⟩
          have hoy : o[J]? = some y := by
            have := congrArg (fun z => z[0]?) id
            simp only [List.getElem?_drop, Nat.add_zero] at this
            rw [this]; exact hy
          rw [gt_some (x := y) (by simpa using hoy) (by omega)]
          have j12 : ∀ b, b = (!p y) → WP (g_prizes_Next_j12 o ((I : Nat) : Int) ((J : Nat) : Int) (up, down, 0) pre.length (setL pre) y b) (Rnd (fun v : Int × Int × List Int => ∃ I J : Nat, v.1 = (I : Int) ∧ v.2.1 = (J : Int) ∧ I < J ∧ J ≤ l.length ∧ v.2.2.length = l.length ∧ v.2.2.take I = (l.take J).filter p ∧ v.2.2.drop J = l.drop J) (fun v => l.length - v.2.1.toNat) (l.length - (((J : Nat) : Int)).toNat) fun z => z = (nextL ts ss c, nextE ts ss c)) := fun b hb => by
            unfold g_prizes_Next_j12 g_prizes_Next_j11
            have hdr : o.drop (J + 1) = l.drop (J + 1) := by
              rw [← List.drop_drop, ← List.drop_drop, id]
            cases hpy : p y
            · rw [hpy] at hb
              subst hb
              (repeat' (first | with_reducible (first | refine WP.iteT ?_ | refine WP.iteF ?_ | refine WP.iteNb ?_ | refine WP.iteD (fun _ => ?_) (fun _ => ?_) | refine WP.iteE (fun _ => ?_) (fun _ => ?_) | refine WP.iteN (fun _ => ?_) (fun _ => ?_) | refine WP.iteB (fun _ => ?_) (fun _ => ?_)) | (with_reducible refine WP.ckI ?_ ?_; · omega) | (with_reducible refine WP.gn ?_ (fun _ _ => ?_); · omega) | (with_reducible refine WP.gt ?_ (fun _ _ => ?_); · omega) | with_reducible (first | refine WP.up ?_ | refine WP.letO ?_ | refine WP.ret ?_)))
              exact ⟨⟨I, J + 1, rfl, by dsimp only; omega, by omega, by omega, hol, by dsimp only; rw [take_snoc hy, List.filter_append, it, List.filter_cons, hpy]; simp, hdr⟩, by dsimp only; omega⟩
            · rw [hpy] at hb
              subst hb
              refine WP.iteNb (WP.iteF ?_)
              refine WP.gt (by omega) fun z hz => ?_
              (repeat' (first | with_reducible (first | refine WP.iteT ?_ | refine WP.iteF ?_ | refine WP.iteNb ?_ | refine WP.iteD (fun _ => ?_) (fun _ => ?_) | refine WP.iteE (fun _ => ?_) (fun _ => ?_) | refine WP.iteN (fun _ => ?_) (fun _ => ?_) | refine WP.iteB (fun _ => ?_) (fun _ => ?_)) | (with_reducible refine WP.ckI ?_ ?_; · omega) | (with_reducible refine WP.gn ?_ (fun _ _ => ?_); · omega) | (with_reducible refine WP.gt ?_ (fun _ _ => ?_); · omega) | with_reducible (first | refine WP.up ?_ | refine WP.letO ?_ | refine WP.ret ?_)))
              refine ⟨⟨I + 1, J + 1, by dsimp only; omega, by dsimp only; omega, by omega, by omega, by simpa using hol, ?_, ?_⟩, by dsimp only; omega⟩
              · dsimp only
                rw [show (((I : Nat) : Int)).toNat = I by omega]
                have e1 : (o.set I y)[I]? = some y := by rw [List.getElem?_set]; simp; omega
                rw [take_snoc e1, List.take_set_of_le (by omega), it, take_snoc hy, List.filter_append, List.filter_cons, hpy]; simp
              · dsimp only
                rw [show (((I : Nat) : Int)).toNat = I by omega, List.drop_set_of_lt (by omega), hdr]
          refine WP.bd (contains_eq hu) ?_
          have hk := key y
          refine WP.iteB (fun h => ?_) (fun h => ?_)
          · refine j12 _ ?_
            rw [h] at hk; exact hk
          · refine WP.bd (contains_eq hd) ?_
            refine j12 _ ?_
            rw [h] at hk; exact hk
        · have hJl : J = l.length := by omega
          subst hJl
          rw [List.take_length] at it
          have hil : (l.filter p).length = I := by rw [← it, List.length_take, hol]; omega
          refine WP.up ?_
          unfold g_prizes_Next_j9
          refine WP.sbp (by simp; omega) ?_
          refine WP.ck (by simp; omega) ?_
          refine WP.sbp (by simp; omega) ?_
          have e1 : ((some ((I : Nat) : Int)).getD 0).toNat = I := by simp
          have e2 : ((none : Option Int).getD 0).toNat = 0 := by simp
          simp only [e1, e2, Option.getD_some, Int.toNat_natCast, Nat.sub_zero]
          have e3 : ∀ m (z : List Int), (o.take I ++ List.replicate m 0 ++ z).take I = l.filter p := fun m z => by
            rw [List.append_assoc, List.take_append_of_le_length (by simp; omega), List.take_take, Nat.min_self, it]
          refine next_j4 hpre (by simp; omega) ?_ ?_ (by omega)
          · rw [e3]; exact fun x hx => hr x (List.mem_filter.1 hx).1
          · rw [e3]; exact hl
      · rw [hpx] at hb
        subst hb
        (repeat' (first | with_reducible (first | refine WP.iteT ?_ | refine WP.iteF ?_ | refine WP.iteNb ?_ | refine WP.iteD (fun _ => ?_) (fun _ => ?_) | refine WP.iteE (fun _ => ?_) (fun _ => ?_) | refine WP.iteN (fun _ => ?_) (fun _ => ?_) | refine WP.iteB (fun _ => ?_) (fun _ => ?_)) | (with_reducible refine WP.ckI ?_ ?_; · omega) | (with_reducible refine WP.gn ?_ (fun _ _ => ?_); · omega) | (with_reducible refine WP.gt ?_ (fun _ _ => ?_); · omega) | with_reducible (first | refine WP.up ?_ | refine WP.letO ?_ | refine WP.ret ?_)))
        exact ⟨⟨by omega, by rw [take_snoc hx, List.filter_append, iv, List.filter_cons, hpx]; simp⟩, by dsimp only; omega⟩
    refine WP.bd (contains_eq hu) ?_
    have hk := key x
    refine WP.iteB (fun h => ?_) (fun h => ?_)
    · refine j15 _ ?_
      rw [h] at hk; exact hk
    · refine WP.bd (contains_eq hd) ?_
      refine j15 _ ?_
      rw [h] at hk; exact hk
  · rw [List.take_of_length_le (by omega)] at iv
    refine WP.up ?_
    unfold g_prizes_Next_j13 g_prizes_Next_j8
    refine WP.iteE (fun _ => ?_) (fun h => absurd rfl h)
    rw [List.length_map]
    have e : l.take l.length = l := List.take_length
    refine next_j4 hpre (Nat.le_refl _) ?_ ?_ hlen
    · rw [e]; exact hr
    · rw [e, ← iv]; exact hl
theorem next_j2 {pre : List Int} (hpre : preE ts ss c = 0) (hm : movE (ofT ts ss c) (ofS ts ss c) = 0) (hft : ∀ t ∈ ts, t.l.length ≤ 30) (hl : pre = aboveL ts ss (ofS ts ss c).ab ++ belowL ts ss (ofS ts ss c).be) :
    WP (g_prizes_Next_j2 (⟨ofT ts ss c, ofS ts ss c⟩, true) (upM (ofT ts ss c) (ofS ts ss c), downM (ofT ts ss c) (ofS ts ss c), 0) pre.length (setL pre)) (fun z => z = (nextL ts ss c, nextE ts ss c)) := by
  have hcl := comeL_len (ss := ss) (c := c) hft
  have hle : pre.length ≤ 90 := by
    simp only [comeL, List.length_append] at hcl
    rw [hl, List.length_append]; omega
  have hT := ofT_len (ss := ss) hft c
  have hu := upM_length (ofT ts ss c) (ofS ts ss c)
  have hd := downM_length (ofT ts ss c) (ofS ts ss c)
  unfold g_prizes_Next_j2
  refine WP.loop (fun v => v.1 ≤ (ofT ts ss c).l.length ∧ v.2 = ((ofT ts ss c).l.take v.1).map clubOf) (fun v => (ofT ts ss c).l.length - v.1) ?_ ⟨by simp, by simp⟩
  rintro ⟨k, o⟩ ⟨hk, iv⟩
  dsimp only at hk iv ⊢
  have ho : o.length = k := by rw [iv]; simp; omega
  simp only [g_prizes_Next_l17]
  refine WP.iteD (fun hlt => ?_) (fun hlt => ?_)
  · obtain ⟨x, hx⟩ : ∃ x, (ofT ts ss c).l[k]? = some x := ⟨_, List.getElem?_eq_getElem (by omega)⟩
    rw [gn_some hx]
    refine WP.ck (by simp only [List.length_cons, List.length_nil]; omega) ?_
    (repeat' (first | with_reducible (first | refine WP.iteT ?_ | refine WP.iteF ?_ | refine WP.iteNb ?_ | refine WP.iteD (fun _ => ?_) (fun _ => ?_) | refine WP.iteE (fun _ => ?_) (fun _ => ?_) | refine WP.iteN (fun _ => ?_) (fun _ => ?_) | refine WP.iteB (fun _ => ?_) (fun _ => ?_)) | (with_reducible refine WP.ckI ?_ ?_; · omega) | (with_reducible refine WP.gn ?_ (fun _ _ => ?_); · omega) | (with_reducible refine WP.gt ?_ (fun _ _ => ?_); · omega) | with_reducible (first | refine WP.up ?_ | refine WP.letO ?_ | refine WP.ret ?_)))
    exact ⟨⟨by dsimp only; omega, by dsimp only; rw [take_snoc hx, List.map_append, iv]; rfl⟩, by dsimp only; omega⟩
  · rw [List.take_of_length_le (by omega)] at iv
    refine WP.up ?_
    unfold g_prizes_Next_j16
    refine WP.ck (by omega) ?_
    rw [iv]
    have hrng := chk_range (movE_chk hm).2
    refine next_rest (p := stays (ofT ts ss c) (ofS ts ss c)) (fun x => rfl) hpre (fun x hx => hrng x ((srtI_perm _).mem_iff.1 hx)) ?_ (by rw [srtI_length, List.length_map]; omega) (by omega) (by omega)
    rw [hl, comeL]
    exact ((srtI_perm _).filter _).append_left _
/-- A list of clubs is counted and put into the set. -/
theorem next_l20 {pre up : List Int} {r3 : List Int × Int} {r4 : League × Bool} {r7 : List Int × List Int × Int} {K : List Int × Int → Prop} (hr : ∀ x ∈ up, 0 ≤ x ∧ x ≤ 191) (hlen : pre.length + up.length ≤ 1000) (h : WP (g_prizes_Next_j2 r4 r7 (pre ++ up).length (setL (pre ++ up))) K) :
    WP (loopO (g_prizes_Next_l20 (up, r3) r4 r7) (0, pre.length, setL pre)) K := by
  refine WP.loop (fun v => v.1 ≤ up.length ∧ v.2.1 = (pre ++ up.take v.1).length ∧ v.2.2 = setL (pre ++ up.take v.1)) (fun v => up.length - v.1) ?_ ⟨by simp, by simp, by simp⟩
  rintro ⟨k, m, o⟩ ⟨hk, im, io⟩
  dsimp only at hk im io ⊢
  have hm : m = pre.length + k := by rw [im, List.length_append, List.length_take]; omega
  simp only [g_prizes_Next_l20]
  refine WP.iteD (fun hlt => ?_) (fun hlt => ?_)
  · obtain ⟨x, hx⟩ : ∃ x, up[k]? = some x := ⟨_, List.getElem?_eq_getElem (by omega)⟩
    rw [gn_some hx]
    have hxr := hr x (List.mem_of_getElem? hx)
    have hol := (setL_facts (pre ++ up.take k)).2.2.1
    rw [← im] at hol
    rw [← io] at hol
    refine WP.ckI (by omega) ?_
    refine WP.ck (by simp only [maxLen]; omega) ?_
    (repeat' (first | with_reducible (first | refine WP.iteT ?_ | refine WP.iteF ?_ | refine WP.iteNb ?_ | refine WP.iteD (fun _ => ?_) (fun _ => ?_) | refine WP.iteE (fun _ => ?_) (fun _ => ?_) | refine WP.iteN (fun _ => ?_) (fun _ => ?_) | refine WP.iteB (fun _ => ?_) (fun _ => ?_)) | (with_reducible refine WP.ckI ?_ ?_; · omega) | (with_reducible refine WP.gn ?_ (fun _ _ => ?_); · omega) | (with_reducible refine WP.gt ?_ (fun _ _ => ?_); · omega) | with_reducible (first | refine WP.up ?_ | refine WP.letO ?_ | refine WP.ret ?_)))
    refine ⟨⟨by dsimp only; omega, ?_, ?_⟩, by dsimp only; omega⟩
    · dsimp only
      rw [take_snoc hx, ← List.append_assoc, List.length_append, ← im]; rfl
    · dsimp only
      rw [take_snoc hx, ← List.append_assoc, setL_snoc, io]
  · rw [List.take_of_length_le (by omega)] at im io
    refine WP.up ?_
    unfold g_prizes_Next_j19
    rw [im, io]
    exact h
theorem next_l23 {down : List Int} {r1 : List Int} {e : Int} {r4 : League × Bool} {r7 : List Int × List Int × Int} {n : Int} {K : List Int × Int → Prop} (hr : ∀ x ∈ down, 0 ≤ x ∧ x ≤ 191) (hlen : down.length ≤ 1000) (h : WP (g_prizes_Next_j1 r4 ts ss r7 n down.length (setL down)) K) :
    WP (loopO (g_prizes_Next_l23 (r1, down, e) r4 ts ss r7 n) (0, 0, [])) K := by
  refine WP.loop (fun v => v.1 ≤ down.length ∧ v.2.1 = (down.take v.1).length ∧ v.2.2 = setL (down.take v.1)) (fun v => down.length - v.1) ?_ ⟨by simp, by simp, by simp [setL]⟩
  rintro ⟨k, m, o⟩ ⟨hk, im, io⟩
  dsimp only at hk im io ⊢
  have hm : m = k := by rw [im, List.length_take]; omega
  simp only [g_prizes_Next_l23]
  refine WP.iteD (fun hlt => ?_) (fun hlt => ?_)
  · obtain ⟨x, hx⟩ : ∃ x, down[k]? = some x := ⟨_, List.getElem?_eq_getElem (by omega)⟩
    rw [gn_some hx]
    have hxr := hr x (List.mem_of_getElem? hx)
    have hol := (setL_facts (down.take k)).2.2.1
    rw [← im] at hol
    rw [← io] at hol
    refine WP.ckI (by omega) ?_
    refine WP.ck (by simp only [maxLen]; omega) ?_
    (repeat' (first | with_reducible (first | refine WP.iteT ?_ | refine WP.iteF ?_ | refine WP.iteNb ?_ | refine WP.iteD (fun _ => ?_) (fun _ => ?_) | refine WP.iteE (fun _ => ?_) (fun _ => ?_) | refine WP.iteN (fun _ => ?_) (fun _ => ?_) | refine WP.iteB (fun _ => ?_) (fun _ => ?_)) | (with_reducible refine WP.ckI ?_ ?_; · omega) | (with_reducible refine WP.gn ?_ (fun _ _ => ?_); · omega) | (with_reducible refine WP.gt ?_ (fun _ _ => ?_); · omega) | with_reducible (first | refine WP.up ?_ | refine WP.letO ?_ | refine WP.ret ?_)))
    refine ⟨⟨by dsimp only; omega, ?_, ?_⟩, by dsimp only; omega⟩
    · dsimp only
      rw [take_snoc hx, List.length_append, ← im]; rfl
    · dsimp only
      rw [take_snoc hx, setL_snoc, io]
  · rw [List.take_of_length_le (by omega)] at im io
    refine WP.up ?_
    unfold g_prizes_Next_j22
    rw [im, io]
    exact h
theorem next_eq (h1 : ts.length ≤ 1000) (h2 : ss.length ≤ 1000) (hft : ∀ t ∈ ts, t.l.length ≤ 30) (hfs : ∀ s ∈ ss, s.p.length ≤ 30) : g_prizes_Next ts ss c = some (nextL ts ss c, nextE ts ss c) := by
  refine WP.eq ?_
  have bad : ∀ e : Int, nextE ts ss c = e → e ≠ 0 → (([] : List Int), e) = (nextL ts ss c, nextE ts ss c) := fun e he h0 => by rw [nextL_nil he h0, he]
  have hlen := fun n => ofT_len (ss := ss) hft n
  have hlenS := fun n => ofS_len (ts := ts) hfs n
  unfold g_prizes_Next
  refine WP.bd (of_eq h1 h2) ?_
  dsimp only
  cases hb : ofB ts ss c
  · refine WP.iteNb (WP.iteF (WP.ret ?_))
    exact bad 420 (err_1 hb) (by omega)
  refine WP.iteNb (WP.iteT ?_)
  refine WP.bd (moves_eq (by have := hlen c; omega) (by have := hlenS c; omega)) ?_
  dsimp only
  refine WP.iteN (fun hm => ?_) (fun hm => ?_)
  · exact WP.ret (bad _ (err_2 hb hm) hm)
  rw [hm]
  have hal : (aboveL ts ss (ofS ts ss c).ab).length ≤ 90 := by
    have := comeL_len (ss := ss) (c := c) hft
    simp only [comeL, List.length_append] at this; omega
  have j1 : aboveE ts ss c = 0 → WP (g_prizes_Next_j1 (⟨ofT ts ss c, ofS ts ss c⟩, true) ts ss (upM (ofT ts ss c) (ofS ts ss c), downM (ofT ts ss c) (ofS ts ss c), 0) c (aboveL ts ss (ofS ts ss c).ab).length (setL (aboveL ts ss (ofS ts ss c).ab))) (fun z => z = (nextL ts ss c, nextE ts ss c)) := fun ha => by
    unfold g_prizes_Next_j1
    dsimp only
    refine WP.iteN (fun hn => ?_) (fun hn => ?_)
    · refine WP.bd (of_eq h1 h2) ?_
      dsimp only
      have j18t : (ofB ts ss (ofS ts ss c).be = false ∨ (ofT ts ss (ofS ts ss c).be).s ≠ (ofT ts ss c).s ∨ (ofS ts ss (ofS ts ss c).be).ab ≠ c) → ∀ r r4 r7 n m, WP (g_prizes_Next_j18 r r4 r7 n m true) (fun z => z = (nextL ts ss c, nextE ts ss c)) := fun hd r r4 r7 n m => by
        unfold g_prizes_Next_j18
        refine WP.iteT (WP.ret ?_)
        exact bad 420 (err_5 hb hm ha hn hd) (by omega)
      cases hb2 : ofB ts ss (ofS ts ss c).be
      · refine WP.iteNb (WP.iteF ?_)
        exact j18t (.inl hb2) _ _ _ _ _
      refine WP.iteNb (WP.iteT ?_)
      refine WP.iteN (fun h3 => j18t (.inr (.inl h3)) _ _ _ _ _) (fun h3 => ?_)
      by_cases h4 : (ofS ts ss (ofS ts ss c).be).ab = c
      · rw [show ((ofS ts ss (ofS ts ss c).be).ab != c) = false by simpa using h4]
        unfold g_prizes_Next_j18
        refine WP.iteF ?_
        refine WP.bd (moves_eq (by have := hlen (ofS ts ss c).be; dsimp only; omega) (by have := hlenS (ofS ts ss c).be; dsimp only; omega)) ?_
        dsimp only
        refine WP.iteN (fun hm2 => ?_) (fun hm2 => ?_)
        · exact WP.ret (bad _ (err_6 hb hm ha hn hb2 h3 h4 hm2) hm2)
        have hul := upM_length (ofT ts ss (ofS ts ss c).be) (ofS ts ss (ofS ts ss c).be)
        have := hlen (ofS ts ss c).be
        have hbe : belowE ts ss c = 0 := (sideE_ok hn hb2 h3 h4).trans hm2
        have hrng := chk_range (movE_chk hm2).2
        refine next_l20 (fun x hx => hrng x (upM_sub hm2 x hx)) (by omega) ?_
        refine next_j2 ((preE_4 hb hm ha).trans hbe) hm hft ?_
        rw [belowL, if_neg hn]
      · rw [show ((ofS ts ss (ofS ts ss c).be).ab != c) = true by simpa using h4]
        exact j18t (.inr (.inr h4)) _ _ _ _ _
    · have hbe : belowE ts ss c = 0 := sideE_skip hn
      refine next_j2 ((preE_4 hb hm ha).trans hbe) hm hft ?_
      rw [belowL, if_pos hn, List.append_nil]
  refine WP.iteN (fun hn => ?_) (fun hn => ?_)
  · refine WP.bd (of_eq h1 h2) ?_
    dsimp only
    have j21t : (ofB ts ss (ofS ts ss c).ab = false ∨ (ofT ts ss (ofS ts ss c).ab).s ≠ (ofT ts ss c).s ∨ (ofS ts ss (ofS ts ss c).ab).be ≠ c) → ∀ r r4 r7, WP (g_prizes_Next_j21 r r4 ts ss r7 c true) (fun z => z = (nextL ts ss c, nextE ts ss c)) := fun hd r r4 r7 => by
      unfold g_prizes_Next_j21
      refine WP.iteT (WP.ret ?_)
      exact bad 420 (err_3 hb hm hn hd) (by omega)
    cases hb2 : ofB ts ss (ofS ts ss c).ab
    · refine WP.iteNb (WP.iteF ?_)
      exact j21t (.inl hb2) _ _ _
    refine WP.iteNb (WP.iteT ?_)
    refine WP.iteN (fun h3 => j21t (.inr (.inl h3)) _ _ _) (fun h3 => ?_)
    by_cases h4 : (ofS ts ss (ofS ts ss c).ab).be = c
    · rw [show ((ofS ts ss (ofS ts ss c).ab).be != c) = false by simpa using h4]
      unfold g_prizes_Next_j21
      refine WP.iteF ?_
      refine WP.bd (moves_eq (by have := hlen (ofS ts ss c).ab; dsimp only; omega) (by have := hlenS (ofS ts ss c).ab; dsimp only; omega)) ?_
      dsimp only
      refine WP.iteN (fun hm2 => ?_) (fun hm2 => ?_)
      · exact WP.ret (bad _ (err_4 hb hm hn hb2 h3 h4 hm2) hm2)
      have hul := downM_length (ofT ts ss (ofS ts ss c).ab) (ofS ts ss (ofS ts ss c).ab)
      have := hlen (ofS ts ss c).ab
      have hae : aboveE ts ss c = 0 := (sideE_ok hn hb2 h3 h4).trans hm2
      have hrng := chk_range (movE_chk hm2).2
      refine next_l23 (fun x hx => hrng x (downM_sub hm2 x hx)) (by omega) ?_
      have := j1 hae
      rw [aboveL, if_neg hn] at this
      exact this
    · rw [show ((ofS ts ss (ofS ts ss c).ab).be != c) = true by simpa using h4]
      exact j21t (.inr (.inr h4)) _ _ _
  · have := j1 (sideE_skip hn)
    rw [aboveL, if_pos hn] at this
    exact this
end
end Go.Proofs.YtoiiblkncbnlaaaGreat

/-
  Chapter 42: comparisons, the size of the statements' inputs, the chapter's examples, the three statements about the reference. Conditions: those of each theorem.
-/
set_option linter.unusedVariables false
set_option linter.unusedSimpArgs false
namespace Go.Proofs.YtoiiblkncbnlaaaGreat
open Go.DL
set_option maxHeartbeats 4000000
theorem same_eq {a b : List Pay} (h : a.length ≤ 1000) : WP (g_ref42_Same a b) (fun z => (z = true ↔ a = b)) := by
  unfold g_ref42_Same
  refine WP.iteN (fun hl => ?_) (fun hl => ?_)
  · refine WP.ret ?_
    simp only [Bool.false_eq_true, false_iff]
    rintro rfl; exact hl rfl
  refine WP.loop (fun k => k ≤ a.length ∧ a.take k = b.take k) (fun k => a.length - k) ?_ ⟨by omega, by simp⟩
  rintro k ⟨hk, iv⟩
  simp only [g_ref42_Same_l2]
  refine WP.iteD (fun hlt => ?_) (fun hlt => ?_)
  · obtain ⟨x, hx⟩ : ∃ x, a[k]? = some x := ⟨_, List.getElem?_eq_getElem (by omega)⟩
    obtain ⟨y, hy⟩ : ∃ y, b[k]? = some y := ⟨_, List.getElem?_eq_getElem (by omega)⟩
    rw [gn_some hx, gn_some hy]
    by_cases he : x = y
    · subst he
      rw [show (!((x.c == x.c) && ((x.a == x.a) && true))) = false by simp]
      (repeat' (first | with_reducible (first | refine WP.iteT ?_ | refine WP.iteF ?_ | refine WP.iteNb ?_ | refine WP.iteD (fun _ => ?_) (fun _ => ?_) | refine WP.iteE (fun _ => ?_) (fun _ => ?_) | refine WP.iteN (fun _ => ?_) (fun _ => ?_) | refine WP.iteB (fun _ => ?_) (fun _ => ?_)) | (with_reducible refine WP.ckI ?_ ?_; · omega) | (with_reducible refine WP.gn ?_ (fun _ _ => ?_); · omega) | (with_reducible refine WP.gt ?_ (fun _ _ => ?_); · omega) | with_reducible (first | refine WP.up ?_ | refine WP.letO ?_ | refine WP.ret ?_)))
      exact ⟨⟨by omega, by rw [take_snoc hx, take_snoc hy, iv]⟩, by dsimp only; omega⟩
    · have hne : (!((x.c == y.c) && ((x.a == y.a) && true))) = true := by
        by_cases h1 : x.c = y.c
        · by_cases h2 : x.a = y.a
          · exact absurd (by cases x; cases y; simp at h1 h2; subst h1; subst h2; rfl) he
          · simp [h2]
        · simp [h1]
      rw [hne]
      (repeat' (first | with_reducible (first | refine WP.iteT ?_ | refine WP.iteF ?_ | refine WP.iteNb ?_ | refine WP.iteD (fun _ => ?_) (fun _ => ?_) | refine WP.iteE (fun _ => ?_) (fun _ => ?_) | refine WP.iteN (fun _ => ?_) (fun _ => ?_) | refine WP.iteB (fun _ => ?_) (fun _ => ?_)) | (with_reducible refine WP.ckI ?_ ?_; · omega) | (with_reducible refine WP.gn ?_ (fun _ _ => ?_); · omega) | (with_reducible refine WP.gt ?_ (fun _ _ => ?_); · omega) | with_reducible (first | refine WP.up ?_ | refine WP.letO ?_ | refine WP.ret ?_)))
      show (false = true ↔ a = b)
      simp only [Bool.false_eq_true, false_iff]
      rintro rfl
      rw [hx] at hy; exact he (Option.some.inj hy)
  · unfold g_ref42_Same_j1
    (repeat' (first | with_reducible (first | refine WP.iteT ?_ | refine WP.iteF ?_ | refine WP.iteNb ?_ | refine WP.iteD (fun _ => ?_) (fun _ => ?_) | refine WP.iteE (fun _ => ?_) (fun _ => ?_) | refine WP.iteN (fun _ => ?_) (fun _ => ?_) | refine WP.iteB (fun _ => ?_) (fun _ => ?_)) | (with_reducible refine WP.ckI ?_ ?_; · omega) | (with_reducible refine WP.gn ?_ (fun _ _ => ?_); · omega) | (with_reducible refine WP.gt ?_ (fun _ _ => ?_); · omega) | with_reducible (first | refine WP.up ?_ | refine WP.letO ?_ | refine WP.ret ?_)))
    show (true = true ↔ a = b)
    rw [List.take_of_length_le (by omega), List.take_of_length_le (by omega)] at iv
    simp [iv]
theorem sameInts_eq {a b : List Int} (h : a.length ≤ 1000) : WP (g_ref42_SameInts a b) (fun z => (z = true ↔ a = b)) := by
  unfold g_ref42_SameInts
  refine WP.iteN (fun hl => ?_) (fun hl => ?_)
  · refine WP.ret ?_
    simp only [Bool.false_eq_true, false_iff]
    rintro rfl; exact hl rfl
  refine WP.loop (fun k => k ≤ a.length ∧ a.take k = b.take k) (fun k => a.length - k) ?_ ⟨by omega, by simp⟩
  rintro k ⟨hk, iv⟩
  simp only [g_ref42_SameInts_l2]
  refine WP.iteD (fun hlt => ?_) (fun hlt => ?_)
  · obtain ⟨x, hx⟩ : ∃ x, a[k]? = some x := ⟨_, List.getElem?_eq_getElem (by omega)⟩
    obtain ⟨y, hy⟩ : ∃ y, b[k]? = some y := ⟨_, List.getElem?_eq_getElem (by omega)⟩
    rw [gn_some hx, gn_some hy]
    refine WP.iteN (fun he => ?_) (fun he => ?_)
    · (repeat' (first | with_reducible (first | refine WP.iteT ?_ | refine WP.iteF ?_ | refine WP.iteNb ?_ | refine WP.iteD (fun _ => ?_) (fun _ => ?_) | refine WP.iteE (fun _ => ?_) (fun _ => ?_) | refine WP.iteN (fun _ => ?_) (fun _ => ?_) | refine WP.iteB (fun _ => ?_) (fun _ => ?_)) | (with_reducible refine WP.ckI ?_ ?_; · omega) | (with_reducible refine WP.gn ?_ (fun _ _ => ?_); · omega) | (with_reducible refine WP.gt ?_ (fun _ _ => ?_); · omega) | with_reducible (first | refine WP.up ?_ | refine WP.letO ?_ | refine WP.ret ?_)))
      show (false = true ↔ a = b)
      simp only [Bool.false_eq_true, false_iff]
      rintro rfl
      rw [hx] at hy; exact he (Option.some.inj hy)
    · subst he
      (repeat' (first | with_reducible (first | refine WP.iteT ?_ | refine WP.iteF ?_ | refine WP.iteNb ?_ | refine WP.iteD (fun _ => ?_) (fun _ => ?_) | refine WP.iteE (fun _ => ?_) (fun _ => ?_) | refine WP.iteN (fun _ => ?_) (fun _ => ?_) | refine WP.iteB (fun _ => ?_) (fun _ => ?_)) | (with_reducible refine WP.ckI ?_ ?_; · omega) | (with_reducible refine WP.gn ?_ (fun _ _ => ?_); · omega) | (with_reducible refine WP.gt ?_ (fun _ _ => ?_); · omega) | with_reducible (first | refine WP.up ?_ | refine WP.letO ?_ | refine WP.ret ?_)))
      exact ⟨⟨by omega, by rw [take_snoc hx, take_snoc hy, iv]⟩, by dsimp only; omega⟩
  · unfold g_ref42_SameInts_j1
    (repeat' (first | with_reducible (first | refine WP.iteT ?_ | refine WP.iteF ?_ | refine WP.iteNb ?_ | refine WP.iteD (fun _ => ?_) (fun _ => ?_) | refine WP.iteE (fun _ => ?_) (fun _ => ?_) | refine WP.iteN (fun _ => ?_) (fun _ => ?_) | refine WP.iteB (fun _ => ?_) (fun _ => ?_)) | (with_reducible refine WP.ckI ?_ ?_; · omega) | (with_reducible refine WP.gn ?_ (fun _ _ => ?_); · omega) | (with_reducible refine WP.gt ?_ (fun _ _ => ?_); · omega) | with_reducible (first | refine WP.up ?_ | refine WP.letO ?_ | refine WP.ret ?_)))
    show (true = true ↔ a = b)
    rw [List.take_of_length_le (by omega), List.take_of_length_le (by omega)] at iv
    simp [iv]
theorem few_eq (ts : List Tab) (ss : List Sch) : WP (g_ref42_Few ts ss) (fun z => (z = true ↔ Few ts ss)) := by
  have no : ¬ Few ts ss → (false = true ↔ Few ts ss) := fun h => by simp [h]
  have j1 : ∀ b, (b = true → ¬ Few ts ss) → (b = false → ts.length ≤ 5 ∧ ss.length ≤ 5) → WP (g_ref42_Few_j1 ts ss b) (fun z => (z = true ↔ Few ts ss)) := fun b h1 h2 => by
    unfold g_ref42_Few_j1
    cases b
    · obtain ⟨h3, h4⟩ := h2 rfl
      refine WP.iteF ?_
      refine WP.loop (fun k => k ≤ ts.length ∧ ∀ t ∈ ts.take k, t.l.length ≤ 30) (fun k => ts.length - k) ?_ ⟨by omega, by simp⟩
      rintro k ⟨hk, iv⟩
      simp only [g_ref42_Few_l5]
      refine WP.iteD (fun hlt => ?_) (fun hlt => ?_)
      · obtain ⟨x, hx⟩ : ∃ x, ts[k]? = some x := ⟨_, List.getElem?_eq_getElem (by omega)⟩
        rw [gn_some hx]
        refine WP.iteD (fun h5 => ?_) (fun h5 => ?_)
        · (repeat' (first | with_reducible (first | refine WP.iteT ?_ | refine WP.iteF ?_ | refine WP.iteNb ?_ | refine WP.iteD (fun _ => ?_) (fun _ => ?_) | refine WP.iteE (fun _ => ?_) (fun _ => ?_) | refine WP.iteN (fun _ => ?_) (fun _ => ?_) | refine WP.iteB (fun _ => ?_) (fun _ => ?_)) | (with_reducible refine WP.ckI ?_ ?_; · omega) | (with_reducible refine WP.gn ?_ (fun _ _ => ?_); · omega) | (with_reducible refine WP.gt ?_ (fun _ _ => ?_); · omega) | with_reducible (first | refine WP.up ?_ | refine WP.letO ?_ | refine WP.ret ?_)))
          refine no fun hf => ?_
          have := hf.2.2.1 x (List.mem_of_getElem? hx)
          omega
        · (repeat' (first | with_reducible (first | refine WP.iteT ?_ | refine WP.iteF ?_ | refine WP.iteNb ?_ | refine WP.iteD (fun _ => ?_) (fun _ => ?_) | refine WP.iteE (fun _ => ?_) (fun _ => ?_) | refine WP.iteN (fun _ => ?_) (fun _ => ?_) | refine WP.iteB (fun _ => ?_) (fun _ => ?_)) | (with_reducible refine WP.ckI ?_ ?_; · omega) | (with_reducible refine WP.gn ?_ (fun _ _ => ?_); · omega) | (with_reducible refine WP.gt ?_ (fun _ _ => ?_); · omega) | with_reducible (first | refine WP.up ?_ | refine WP.letO ?_ | refine WP.ret ?_)))
          exact ⟨⟨by omega, all_snoc iv hx (by omega)⟩, by dsimp only; omega⟩
      · rw [List.take_of_length_le (by omega)] at iv
        refine WP.up ?_
        unfold g_ref42_Few_j2
        refine WP.loop (fun k => k ≤ ss.length ∧ ∀ s ∈ ss.take k, s.p.length ≤ 30) (fun k => ss.length - k) ?_ ⟨by omega, by simp⟩
        rintro j ⟨hj, iw⟩
        simp only [g_ref42_Few_l4]
        refine WP.iteD (fun hlt2 => ?_) (fun hlt2 => ?_)
        · obtain ⟨x, hx⟩ : ∃ x, ss[j]? = some x := ⟨_, List.getElem?_eq_getElem (by omega)⟩
          rw [gn_some hx]
          refine WP.iteD (fun h5 => ?_) (fun h5 => ?_)
          · (repeat' (first | with_reducible (first | refine WP.iteT ?_ | refine WP.iteF ?_ | refine WP.iteNb ?_ | refine WP.iteD (fun _ => ?_) (fun _ => ?_) | refine WP.iteE (fun _ => ?_) (fun _ => ?_) | refine WP.iteN (fun _ => ?_) (fun _ => ?_) | refine WP.iteB (fun _ => ?_) (fun _ => ?_)) | (with_reducible refine WP.ckI ?_ ?_; · omega) | (with_reducible refine WP.gn ?_ (fun _ _ => ?_); · omega) | (with_reducible refine WP.gt ?_ (fun _ _ => ?_); · omega) | with_reducible (first | refine WP.up ?_ | refine WP.letO ?_ | refine WP.ret ?_)))
            refine no fun hf => ?_
            have := hf.2.2.2 x (List.mem_of_getElem? hx)
            omega
          · (repeat' (first | with_reducible (first | refine WP.iteT ?_ | refine WP.iteF ?_ | refine WP.iteNb ?_ | refine WP.iteD (fun _ => ?_) (fun _ => ?_) | refine WP.iteE (fun _ => ?_) (fun _ => ?_) | refine WP.iteN (fun _ => ?_) (fun _ => ?_) | refine WP.iteB (fun _ => ?_) (fun _ => ?_)) | (with_reducible refine WP.ckI ?_ ?_; · omega) | (with_reducible refine WP.gn ?_ (fun _ _ => ?_); · omega) | (with_reducible refine WP.gt ?_ (fun _ _ => ?_); · omega) | with_reducible (first | refine WP.up ?_ | refine WP.letO ?_ | refine WP.ret ?_)))
            exact ⟨⟨by omega, all_snoc iw hx (by omega)⟩, by dsimp only; omega⟩
        · rw [List.take_of_length_le (by omega)] at iw
          unfold g_ref42_Few_j3
          (repeat' (first | with_reducible (first | refine WP.iteT ?_ | refine WP.iteF ?_ | refine WP.iteNb ?_ | refine WP.iteD (fun _ => ?_) (fun _ => ?_) | refine WP.iteE (fun _ => ?_) (fun _ => ?_) | refine WP.iteN (fun _ => ?_) (fun _ => ?_) | refine WP.iteB (fun _ => ?_) (fun _ => ?_)) | (with_reducible refine WP.ckI ?_ ?_; · omega) | (with_reducible refine WP.gn ?_ (fun _ _ => ?_); · omega) | (with_reducible refine WP.gt ?_ (fun _ _ => ?_); · omega) | with_reducible (first | refine WP.up ?_ | refine WP.letO ?_ | refine WP.ret ?_)))
          show (true = true ↔ Few ts ss)
          simp only [true_iff]
          exact ⟨h3, h4, iv, iw⟩
    · refine WP.iteT (WP.ret ?_)
      exact no (h1 rfl)
  unfold g_ref42_Few
  refine WP.iteD (fun h => ?_) (fun h => ?_)
  · refine j1 _ (fun _ hf => ?_) (fun hb => by cases hb)
    have := hf.1; omega
  · refine j1 _ (fun hb hf => ?_) (fun hb => ?_)
    · have := hf.2.1
      have := of_decide_eq_true hb
      omega
    · have := of_decide_eq_false hb
      omega
theorem level_eq {c : Int} {cs : List Int} (h : cs.length ≤ 1000) : g_law42_level c cs = some (levelT c cs) := by
  refine WP.eq ?_
  unfold g_law42_level
  refine WP.loop (fun v => v.1 ≤ cs.length ∧ v.2 = (cs.take v.1).map tied) (fun v => cs.length - v.1) ?_ ⟨by simp, by simp⟩
  rintro ⟨k, o⟩ ⟨hk, iv⟩
  dsimp only at hk iv ⊢
  have ho : o.length = k := by rw [iv]; simp; omega
  simp only [g_law42_level_l2]
  refine WP.iteD (fun hlt => ?_) (fun hlt => ?_)
  · obtain ⟨x, hx⟩ : ∃ x, cs[k]? = some x := ⟨_, List.getElem?_eq_getElem (by omega)⟩
    rw [gn_some hx]
    refine WP.ck (by simp only [List.length_cons, List.length_nil]; omega) ?_
    (repeat' (first | with_reducible (first | refine WP.iteT ?_ | refine WP.iteF ?_ | refine WP.iteNb ?_ | refine WP.iteD (fun _ => ?_) (fun _ => ?_) | refine WP.iteE (fun _ => ?_) (fun _ => ?_) | refine WP.iteN (fun _ => ?_) (fun _ => ?_) | refine WP.iteB (fun _ => ?_) (fun _ => ?_)) | (with_reducible refine WP.ckI ?_ ?_; · omega) | (with_reducible refine WP.gn ?_ (fun _ _ => ?_); · omega) | (with_reducible refine WP.gt ?_ (fun _ _ => ?_); · omega) | with_reducible (first | refine WP.up ?_ | refine WP.letO ?_ | refine WP.ret ?_)))
    exact ⟨⟨by dsimp only; omega, level_step iv hx⟩, by dsimp only; omega⟩
  · unfold g_law42_level_j1
    (repeat' (first | with_reducible (first | refine WP.iteT ?_ | refine WP.iteF ?_ | refine WP.iteNb ?_ | refine WP.iteD (fun _ => ?_) (fun _ => ?_) | refine WP.iteE (fun _ => ?_) (fun _ => ?_) | refine WP.iteN (fun _ => ?_) (fun _ => ?_) | refine WP.iteB (fun _ => ?_) (fun _ => ?_)) | (with_reducible refine WP.ckI ?_ ?_; · omega) | (with_reducible refine WP.gn ?_ (fun _ _ => ?_); · omega) | (with_reducible refine WP.gt ?_ (fun _ _ => ?_); · omega) | with_reducible (first | refine WP.up ?_ | refine WP.letO ?_ | refine WP.ret ?_)))
    rw [iv, List.take_of_length_le (by omega)]; rfl
/-! ### the chapter's examples -/
def sc1 : Sch := ⟨2, [⟨1, 2, 101⟩], 0, 0, -1, -1⟩
def sc2 : Sch := ⟨2, [⟨1, 2, 101⟩], 3, 0, 1, -1⟩
def ta1 : Tab := levelT 2 [4, 9]
theorem ex_fit : fitS ta1 sc1 = 0 := by decide
theorem ex_pay : payU ta1 sc1 = [⟨4, 51⟩, ⟨9, 50⟩] := by decide
theorem ex_pay2 : srtP (payU ta1 sc1) = [⟨4, 51⟩, ⟨9, 50⟩] := by
  rw [← insAll_eq (by rw [ex_pay]; decide), ex_pay]; decide
theorem ex_mov : movE ta1 sc1 = 0 := by decide
theorem ex_of : ofB [ta1] [sc1] 2 = true ∧ ofT [ta1] [sc1] 2 = ta1 ∧ ofS [ta1] [sc1] 2 = sc1 := by
  have h : ofB [ta1] [sc1] 2 = true := by decide
  exact ⟨h, ofT_yes h (by rfl), ofS_yes h (by rfl)⟩
theorem ex_none : clubsL [] = [] := by rw [clubsL, ← insAllI_eq]; rfl
theorem ex_rest : restL ta1 sc1 = [4, 9] := by
  have h1 : upM ta1 sc1 = [] := by rw [upM_ok ex_mov]; exact ex_none
  have h2 : downM ta1 sc1 = [] := by rw [downM_ok ex_mov]; exact ex_none
  unfold restL
  rw [show stays ta1 sc1 = fun _ => true by funext x; unfold stays; rw [h1, h2]; rfl]
  decide
theorem ex_come : comeL [ta1] [sc1] 2 = [4, 9] := by
  obtain ⟨_, h2, h3⟩ := ex_of
  unfold comeL
  rw [h2, h3, ex_rest]
  rfl
theorem ex_next : nextE [ta1] [sc1] 2 = 0 ∧ nextL [ta1] [sc1] 2 = [4, 9] := by
  obtain ⟨h1, h2, h3⟩ := ex_of
  have ha : aboveE [ta1] [sc1] 2 = 0 := sideE_skip (by rw [h3]; rfl)
  have hb : belowE [ta1] [sc1] 2 = 0 := sideE_skip (by rw [h3]; rfl)
  have hp := (preE_4 h1 (by rw [h2, h3]; exact ex_mov) ha).trans hb
  have e := nextE_0 hp (by rw [ex_come]; decide)
  refine ⟨e, ?_⟩
  rw [nextL_ok e, ex_come, ← insAllI_eq]; decide
theorem sane_eq : g_law42_sane = some true := by
  refine WP.eq ?_
  unfold g_law42_sane
  refine WP.bd (level_eq (by simp)) ?_
  refine WP.bd (r := ([⟨4, 51⟩, ⟨9, 50⟩], 0)) ?_ ?_
  · refine (gprizes_eq (by simp [levelT]) (by simp)).trans ?_
    show some (if fitS ta1 sc1 = 0 then srtP (payU ta1 sc1) else [], fitS ta1 sc1) = _
    rw [ex_fit, ex_pay2]; rfl
  refine WP.bd (r := ([4, 9], 0)) ?_ ?_
  · refine (next_eq (by simp) (by simp) (by simp [levelT]) (by simp)).trans ?_
    show some (nextL [ta1] [sc1] 2, nextE [ta1] [sc1] 2) = _
    rw [ex_next.1, ex_next.2]
  refine WP.bd (r := ([], 420)) ?_ ?_
  · refine (next_eq (by simp) (by simp) (by simp) (by simp)).trans ?_
    have e : nextE [] [] 0 = 420 := err_1 (by decide)
    rw [nextL_nil e (by omega), e]
  refine WP.bd (r := ([], 1)) ?_ ?_
  · refine (gprizes_eq (by simp) (by simp)).trans ?_
    show some (if fitS ⟨0, 0, []⟩ sc1 = 0 then srtP (payU ⟨0, 0, []⟩ sc1) else [], fitS ⟨0, 0, []⟩ sc1) = _
    have e : fitS ⟨0, 0, []⟩ sc1 = 1 := by decide
    rw [e]; rfl
  refine WP.bd (r := ([], [], 420)) ?_ ?_
  · refine (moves_eq (by simp [levelT]) (by simp)).trans ?_
    show some (upM ta1 sc2, downM ta1 sc2, movE ta1 sc2) = _
    have e : movE ta1 sc2 = 420 := by decide
    rw [upM_nil (by omega), downM_nil (by omega), e]
  refine WP.iteN (fun h => absurd rfl h) (fun _ => ?_)
  refine WP.iteN (fun h => absurd rfl h) (fun _ => ?_)
  refine WP.iteN (fun h => absurd rfl h) (fun _ => ?_)
  refine WP.bd (r := 1) ((tcheck_eq (by simp)).trans (by rfl)) ?_
  refine WP.iteN (fun h => absurd rfl h) (fun _ => ?_)
  refine WP.iteE (fun h => by cases h) (fun _ => ?_)
  rw [show ((((([] : List Int), ([] : List Int), (420 : Int)) : List Int × List Int × Int).2.2 != 420)) = false by rfl]
  unfold g_law42_sane_j1
  refine WP.iteF ?_
  refine WP.bdW ((same_eq (by simp)).mono fun z hz => ?_)
  rw [hz.2 rfl]
  refine WP.iteT ?_
  refine WP.bdW ((sameInts_eq (by simp)).mono fun z hz => ?_)
  rw [hz.2 rfl]
  refine WP.iteT ?_
  refine WP.bd (r := 0) ((pcheck_eq (by simp)).trans (by rfl)) ?_
  refine WP.iteE (fun _ => ?_) (fun h => absurd rfl h)
  refine WP.bd (r := 420) ((pcheck_eq (by simp)).trans (by rfl)) ?_
  refine WP.iteE (fun _ => ?_) (fun h => absurd rfl h)
  refine WP.bd (r := 420) ((pcheck_eq (by simp)).trans (by rfl)) ?_
  exact WP.ret rfl
/-! ### the statements -/
theorem nextL_len {ts : List Tab} {ss : List Sch} {c : Int} (h : ∀ t ∈ ts, t.l.length ≤ 30) : (nextL ts ss c).length ≤ 90 := by
  unfold nextL; split
  · simp
  · rw [srtI_length]; exact comeL_len h
theorem nextSpec_eq (ts : List Tab) (ss : List Sch) (c : Int) : g_law42_PrizesNextSpec ts ss c = some true := by
  refine WP.eq ?_
  unfold g_law42_PrizesNextSpec
  refine WP.bd sane_eq ?_
  refine WP.iteNb (WP.iteT ?_)
  refine WP.bdW ((few_eq ts ss).mono fun z hz => ?_)
  cases z
  · exact WP.iteNb (WP.iteF (WP.ret rfl))
  obtain ⟨h1, h2, h3, h4⟩ := hz.1 rfl
  refine WP.iteNb (WP.iteT ?_)
  refine WP.bd (next_eq (by omega) (by omega) h3 h4) ?_
  refine WP.bd (rnext_eq (by omega) (by omega) h3) ?_
  have hn := nextL_len (ss := ss) (c := c) h3
  refine WP.bdW ((sameInts_eq (by dsimp only; omega)).mono fun z hz => ?_)
  rw [hz.2 rfl]
  refine WP.iteT (WP.ret ?_)
  simp
end Go.Proofs.YtoiiblkncbnlaaaGreat
