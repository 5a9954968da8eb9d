/-
  Plain laws of chapter 39, third part: what each movement makes of a valid house.
-/
import Derived.Test.YtpkbecaailhhmaaPm
set_option linter.unusedVariables false
set_option linter.unusedSimpArgs false
namespace Go.Proofs.Ytpkbecaailhhmaa
open Go.DL

theorem V.tot0 {h : House} (v : V h) : 0 ≤ totZ h := by
  have := sumZ_nonneg v.nn
  have := heldZ_nonneg v.ho
  unfold totZ; omega
theorem mod_one {c a : Int} (h1 : -1125899906842624 ≤ a) (h2 : a ≤ 1125899906842624) : Mod [⟨c, a⟩] :=
  ⟨by simp, fun p hp => by rw [List.mem_singleton] at hp; subst hp; exact ⟨h1, h2⟩⟩
theorem mod_pays {has : Int → Bool} {l : List Pay} (h : Pays has l) : Mod l :=
  ⟨h.len, fun p hp => by have := h.pos p hp; omega⟩
theorem paid_ok {h h' : House} {c a : Int} (v : V h) (e : paid h c a = (h', 0)) :
    V h' ∧ h'.b.map (·.c) = h.b.map (·.c) ∧ totZ h' = totZ h + a ∧ h'.h = h.h ∧ 1 ≤ a ∧ a ≤ 1125899906842624 := by
  unfold paid at e
  rw [v.check] at e
  simp only [ne_eq, not_true_eq_false, if_false] at e
  split at e
  · simp at e
  · rename_i hc
    split at e
    · simp at e
    · rename_i ht
      obtain ⟨rfl, _⟩ := Prod.mk.inj e
      have ha : 1 ≤ a := Int.not_lt.1 fun x => hc (.inr (.inl x))
      have hb : a ≤ 1125899906842624 := Int.not_lt.1 fun x => hc (.inr (.inr x))
      have hh : hasB h c = true := by cases q : hasB h c with | true => rfl | false => exact absurd (.inl q) hc
      rw [hasB_eq v.cl] at hh
      have t0 := v.tot0
      have t1 := v.to
      rw [v.total, wrap_in (by omega) (by omega)] at ht
      have hm : sumZ h.b + sumZ [⟨c, a⟩] + heldZ h.h = totZ h + a := by simp only [sumZ, totZ]; omega
      obtain ⟨v', e'⟩ := v.cred (ps := [⟨c, a⟩]) (mod_one (by omega) hb) (fun p hp => by rw [List.mem_singleton] at hp; subst hp; exact hasR_mem.1 hh)
        (fun x hx => by have := v.nn x hx; have := amt_nonneg (c := x.c) (ps := [⟨c, a⟩]) (fun p hp => by rw [List.mem_singleton] at hp; subst hp; exact (by omega : 0 ≤ a)); omega) v.pw v.ho (by rw [hm]; omega)
      exact ⟨v', cred_c (clubs_pw v.cl) _, by rw [e', hm], rfl, ha, hb⟩
theorem ins_pw {ks : List Int} (hp : ks.Pairwise (· < ·)) {t : Int} (ht : t ∉ ks) : (ks.take (bsAt ks t) ++ [t] ++ ks.drop (bsAt ks t)).Pairwise (· < ·) := by
  obtain ⟨h1, h2⟩ := bsAt_spec hp t
  have ha : ∀ x ∈ ks.take (bsAt ks t), x < t := by
    intro x hx
    obtain ⟨i, hi, he⟩ := List.mem_iff_getElem?.1 hx |>.elim fun i hi => (⟨i, (List.getElem?_eq_some_iff.1 hi).1, hi⟩ : ∃ i, ∃ _ : i < (ks.take (bsAt ks t)).length, (ks.take (bsAt ks t))[i]? = some x)
    rw [List.getElem?_take] at he
    split at he
    · rename_i hlt; exact h1 i x hlt he
    · cases he
  have hb : ∀ x ∈ ks.drop (bsAt ks t), t < x := by
    intro x hx
    obtain ⟨i, he⟩ := List.mem_iff_getElem?.1 hx
    rw [List.getElem?_drop] at he
    have := h2 _ x (Nat.le_add_right _ _) he
    have : t ≠ x := fun q => ht (by rw [q]; exact List.mem_of_mem_drop hx)
    omega
  have hab : (ks.take (bsAt ks t) ++ ks.drop (bsAt ks t)).Pairwise (· < ·) := by rw [List.take_append_drop]; exact hp
  rw [List.pairwise_append] at hab
  rw [List.append_assoc, List.pairwise_append]
  refine ⟨hab.1, ?_, fun x hx y hy => ?_⟩
  · rw [List.singleton_append, List.pairwise_cons]
    exact ⟨hb, hab.2.1⟩
  · rw [List.singleton_append] at hy
    rcases List.mem_cons.1 hy with rfl | hy
    · exact ha x hx
    · exact hab.2.2 x hx y hy
theorem held_ok {h h' : House} {t p : Int} {l : List Pay} (v : V h) (e : held h t p l = (h', 0)) :
    V h' ∧ h'.b.map (·.c) = h.b.map (·.c) ∧ totZ h' = totZ h ∧ t ∉ h.h.map (·.t) ∧ p ∈ h.b.map (·.c) ∧ Pays (hasR h) l ∧ h' = ⟨cred h.b [⟨p, -(sumZ l)⟩], h.h.take (bsAt (h.h.map (·.t)) t) ++ [⟨t, p, l, 1⟩] ++ h.h.drop (bsAt (h.h.map (·.t)) t)⟩ := by
  unfold held at e
  rw [v.check] at e
  simp only [ne_eq, not_true_eq_false, if_false] at e
  split at e
  · simp at e
  · rename_i hc
    split at e
    · simp at e
    · rename_i hd
      split at e
      · simp at e
      · rename_i hf
        obtain ⟨rfl, _⟩ := Prod.mk.inj e
        have h1 : 1 ≤ t := Int.not_lt.1 fun x => hc (.inl x)
        have h2 : t ≤ 4096 := Int.not_lt.1 fun x => hc (.inr (.inl x))
        have h3 : t ∉ h.h.map (·.t) := fun x => hc (.inr (.inr (by rw [bsMet_mem v.pw]; exact decide_eq_true x)))
        have h4 : hasB h p = true := by cases q : hasB h p with | true => rfl | false => exact absurd (.inl q) hd
        have h5 : paysOK (hasB h) l = true := by cases q : paysOK (hasB h) l with | true => rfl | false => exact absurd (.inr q) hd
        rw [hasB_eq v.cl] at h4 h5
        have hp := pays_of h5
        have hs := pays_sum0 hp
        have s0 := sumZ_nonneg (fun y hy => (pays_small hp y hy).1)
        have s1 := hp.sum
        rw [hs] at hf ⊢
        rw [wrap_in (by omega) (by omega), Int.zero_sub]
        have hm : sumZ h.b + sumZ [⟨p, -(sumZ l)⟩] + heldZ (h.h.take (bsAt (h.h.map (·.t)) t) ++ [⟨t, p, l, 1⟩] ++ h.h.drop (bsAt (h.h.map (·.t)) t)) = totZ h := by
          rw [heldZ_ins]; simp only [sumZ, totZ, valZ, if_true]; omega
        have t1 := v.to
        have hmem := hasR_mem.1 h4
        obtain ⟨v', e'⟩ := v.cred (ps := [⟨p, -(sumZ l)⟩]) (mod_one (by omega) (by omega)) (fun q hq => by rw [List.mem_singleton] at hq; subst hq; exact hmem)
          (fun x hx => by
            simp only [amtZ]
            by_cases hpx : p = x.c
            · have := bal_get (clubs_pw v.cl) hx
              rw [← hpx] at this
              rw [if_pos hpx]; omega
            · have := v.nn x hx
              rw [if_neg hpx]; omega)
          (H := h.h.take (bsAt (h.h.map (·.t)) t) ++ [⟨t, p, l, 1⟩] ++ h.h.drop (bsAt (h.h.map (·.t)) t))
          (by
            have := ins_pw v.pw h3
            simp only [List.map_append, List.map_take, List.map_drop, List.map_cons, List.map_nil]
            exact this)
          (fun x hx => by
            simp only [List.mem_append, List.mem_singleton] at hx
            rcases hx with (hx | hx) | hx
            · exact v.ho x (List.mem_of_mem_take hx)
            · subst hx; exact ⟨h1, h2, h4, hp, h5, (by decide : (1 : Int) ≤ 1), (by decide : (1 : Int) ≤ 3)⟩
            · exact v.ho x (List.mem_of_mem_drop hx)) (by rw [hm]; omega)
        exact ⟨v', cred_c (clubs_pw v.cl) _, by rw [e', hm], h3, hmem, hp, rfl⟩
theorem set_pw {l : List Hold} {k : Nat} {x y : Hold} (hx : l[k]? = some x) (hy : y.t = x.t) : (l.set k y).map (·.t) = l.map (·.t) := by
  refine List.ext_getElem? fun i => ?_
  rw [List.getElem?_map, List.getElem?_map, List.getElem?_set]
  split
  · rename_i hi
    subst hi
    have := (List.getElem?_eq_some_iff.1 hx).1
    rw [hx]
    simp [this, hy]
  · rfl
theorem set_ho {has : Int → Bool} {l : List Hold} {k : Nat} {y : Hold} (h : ∀ x ∈ l, HoldV has x) (hy : HoldV has y) : ∀ x ∈ l.set k y, HoldV has x := by
  intro x hx
  rcases List.mem_or_eq_of_mem_set hx with hx | rfl
  · exact h x hx
  · exact hy
/-- What settling makes: the hold at place k, with number t, held. -/
def setl (h : House) (k : Nat) (x : Hold) (pd : Bool) : House :=
  ⟨cred h.b (if pd = true then x.ps else [⟨x.p, sumZ x.ps⟩]), h.h.set k ⟨x.t, x.p, x.ps, if pd = true then 2 else 3⟩⟩
theorem settled_eq {h : House} (v : V h) {k : Nat} {x : Hold} (hx : h.h[k]? = some x) (pd : Bool) : settled h x.t pd = if x.s = 1 then (setl h k x pd, 0) else (none0, 391) := by
  have hk : (h.h.map (·.t))[k]? = some x.t := by rw [List.getElem?_map, hx]; rfl
  have hat := bsAt_of v.pw hk
  have hm : bsMet (h.h.map (·.t)) x.t = true := by rw [bsMet_mem v.pw]; exact decide_eq_true (List.mem_of_getElem? hk)
  unfold settled
  rw [v.check, hm, hat, hx]
  simp only [ne_eq, not_true_eq_false, if_false, Bool.true_eq_false]
  have hs := pays_sum0 (v.ho x (List.mem_of_getElem? hx)).ps
  by_cases h1 : x.s = 1
  · rw [if_neg (by simp [h1]), if_pos h1]
    unfold setl
    cases pd <;> simp [hs]
  · rw [if_pos h1, if_neg h1]
theorem settled_none {h : House} (v : V h) {t : Int} (ht : t ∉ h.h.map (·.t)) (pd : Bool) : settled h t pd = (none0, 391) := by
  have hm : bsMet (h.h.map (·.t)) t = false := by rw [bsMet_mem v.pw]; exact decide_eq_false ht
  unfold settled
  rw [v.check, hm]
  simp
theorem setl_ok {h : House} (v : V h) {k : Nat} {x : Hold} (hx : h.h[k]? = some x) (hs : x.s = 1) (pd : Bool) : V (setl h k x pd) ∧ (setl h k x pd).b.map (·.c) = h.b.map (·.c) ∧ totZ (setl h k x pd) = totZ h := by
  have hv := v.ho x (List.mem_of_getElem? hx)
  have s0 := sumZ_nonneg (fun y hy => (pays_small hv.ps y hy).1)
  have s1 := hv.ps.sum
  have t1 := v.to
  have hval : valZ x = sumZ x.ps := by unfold valZ; rw [if_pos hs]
  unfold setl
  cases pd with
  | true =>
    simp only [if_true]
    have hm : sumZ h.b + sumZ x.ps + heldZ (h.h.set k ⟨x.t, x.p, x.ps, 2⟩) = totZ h := by
      rw [heldZ_set hx, hval]; simp only [valZ, totZ]; rw [if_neg (by decide)]; omega
    obtain ⟨v', e'⟩ := v.cred (ps := x.ps) (mod_pays hv.ps) (fun p hp => hasR_mem.1 (hv.ps.has p hp)) (fun y hy => by have := v.nn y hy; have := amt_nonneg (c := y.c) (fun p hp => (pays_small hv.ps p hp).1); omega)
      (H := h.h.set k ⟨x.t, x.p, x.ps, 2⟩) (by rw [set_pw (y := ⟨x.t, x.p, x.ps, 2⟩) hx rfl]; exact v.pw) (set_ho v.ho ⟨hv.t1, hv.t2, hv.hp, hv.ps, hv.pk, (by decide : (1 : Int) ≤ 2), (by decide : (2 : Int) ≤ 3)⟩) (by rw [hm]; omega)
    exact ⟨v', cred_c (clubs_pw v.cl) _, by rw [e', hm]⟩
  | false =>
    simp only [Bool.false_eq_true, if_false]
    have hm : sumZ h.b + sumZ [⟨x.p, sumZ x.ps⟩] + heldZ (h.h.set k ⟨x.t, x.p, x.ps, 3⟩) = totZ h := by
      rw [heldZ_set hx, hval]; simp only [valZ, totZ, sumZ]; rw [if_neg (by decide)]; omega
    obtain ⟨v', e'⟩ := v.cred (ps := [⟨x.p, sumZ x.ps⟩]) (mod_one (by omega) s1) (fun p hp => by rw [List.mem_singleton] at hp; subst hp; exact hasR_mem.1 hv.hp)
      (fun y hy => by have := v.nn y hy; have := amt_nonneg (c := y.c) (ps := [⟨x.p, sumZ x.ps⟩]) (fun p hp => by rw [List.mem_singleton] at hp; subst hp; exact s0); omega)
      (H := h.h.set k ⟨x.t, x.p, x.ps, 3⟩) (by rw [set_pw (y := ⟨x.t, x.p, x.ps, 3⟩) hx rfl]; exact v.pw) (set_ho v.ho ⟨hv.t1, hv.t2, hv.hp, hv.ps, hv.pk, (by decide : (1 : Int) ≤ 3), (by decide : (3 : Int) ≤ 3)⟩) (by rw [hm]; omega)
    exact ⟨v', cred_c (clubs_pw v.cl) _, by rw [e', hm]⟩
theorem settled_ok {h h' : House} {t : Int} {pd : Bool} (v : V h) (e : settled h t pd = (h', 0)) : ∃ k x, h.h[k]? = some x ∧ x.t = t ∧ x.s = 1 ∧ h' = setl h k x pd := by
  by_cases ht : t ∈ h.h.map (·.t)
  · obtain ⟨x, hx, rfl⟩ := List.mem_map.1 ht
    obtain ⟨k, hk⟩ := List.mem_iff_getElem?.1 hx
    rw [settled_eq v hk] at e
    split at e
    · rename_i hs
      exact ⟨k, x, hk, rfl, hs, (Prod.mk.inj e).1.symm⟩
    · simp at e
  · rw [settled_none v ht] at e; simp at e
theorem held_met {h : House} (v : V h) {x : Hold} (hx : x ∈ h.h) (p : Int) (l : List Pay) : held h x.t p l = (none0, 391) := by
  have hm : bsMet (h.h.map (·.t)) x.t = true := by rw [bsMet_mem v.pw]; exact decide_eq_true (List.mem_map.2 ⟨x, hx, rfl⟩)
  unfold held
  rw [v.check, hm]
  simp
theorem paid_no {h : House} {c a : Int} (e : (paid h c a).2 ≠ 0) : (paid h c a).1 = none0 := by
  unfold paid at e ⊢
  repeat (first | rfl | (exact absurd rfl e) | split at e <;> rename_i q <;> first | rw [if_pos q] | rw [if_neg q])
theorem pair_no {a b : House × Int} {p : Prop} [Decidable p] (ha : a.2 ≠ 0 → a.1 = none0) (hb : b.2 ≠ 0 → b.1 = none0) : (if p then a else b).2 ≠ 0 → (if p then a else b).1 = none0 := by
  split <;> assumption
theorem held_no {h : House} {t p : Int} {l : List Pay} : (held h t p l).2 ≠ 0 → (held h t p l).1 = none0 := by
  unfold held
  exact pair_no (fun _ => rfl) (pair_no (fun _ => rfl) (pair_no (fun _ => rfl) (pair_no (fun _ => rfl) fun e => absurd rfl e)))
theorem settled_no {h : House} {t : Int} {pd : Bool} : (settled h t pd).2 ≠ 0 → (settled h t pd).1 = none0 := by
  unfold settled
  refine pair_no (fun _ => rfl) (pair_no (fun _ => rfl) ?_)
  split
  · exact fun _ => rfl
  · exact pair_no (fun _ => rfl) (pair_no (fun e => absurd rfl e) fun e => absurd rfl e)
theorem step_no {h : House} {s : Step} : (stepOf h s).2 ≠ 0 → (stepOf h s).1 = none0 := by
  unfold stepOf
  exact pair_no paid_no (pair_no held_no settled_no)
theorem step_ok {h : House} {s : Step} (v : V h) (e : (stepOf h s).2 = 0) : V (stepOf h s).1 ∧ (stepOf h s).1.b.map (·.c) = h.b.map (·.c) ∧ totZ (stepOf h s).1 = totZ h + (if s.k = 0 then s.a else 0) ∧ (s.k = 0 → 1 ≤ s.a ∧ s.a ≤ 1125899906842624) := by
  unfold stepOf at e ⊢
  by_cases h0 : s.k = 0
  · rw [if_pos h0] at e ⊢
    obtain ⟨a, b, c, _, d, f⟩ := paid_ok v (h' := (paid h s.c s.a).1) (by rw [← e])
    exact ⟨a, b, by rw [c, if_pos h0], fun _ => ⟨d, f⟩⟩
  · rw [if_neg h0] at e ⊢
    by_cases h1 : s.k = 1
    · rw [if_pos h1] at e ⊢
      obtain ⟨a, b, c, _⟩ := held_ok v (h' := (held h s.t s.c s.ps).1) (by rw [← e])
      exact ⟨a, b, by rw [c, if_neg h0, Int.add_zero], fun q => absurd q h0⟩
    · rw [if_neg h1] at e ⊢
      obtain ⟨k, x, hx, _, hs, he⟩ := settled_ok v (h' := (settled h s.t s.pd).1) (by rw [← e])
      rw [he]
      obtain ⟨a, b, c⟩ := setl_ok v hx hs s.pd
      exact ⟨a, b, by rw [c, if_neg h0, Int.add_zero], fun q => absurd q h0⟩
theorem new_V {cl : List Int} (e : newE cl = 0) : V ⟨newB cl, []⟩ ∧ (newB cl).map (·.c) = cl ∧ totZ ⟨newB cl, []⟩ = 0 := by
  unfold newE at e
  split at e
  · rename_i hc
    have hb : newB cl = cl.map (fun c => ⟨c, 0⟩) := by unfold newB; rw [if_pos hc]
    have hm : (newB cl).map (·.c) = cl := by rw [hb, List.map_map]; exact List.map_id cl
    have hz : totZ ⟨newB cl, []⟩ = 0 := by
      unfold totZ
      simp only [heldZ, hb]
      have : ∀ l : List Int, sumZ (l.map fun c => (⟨c, 0⟩ : Pay)) = 0 := by
        intro l
        induction l with
        | nil => rfl
        | cons c l ih => simp only [List.map_cons, sumZ, ih]; rfl
      rw [this]; rfl
    refine ⟨⟨by rw [hm]; exact hc, fun x hx => ?_, List.Pairwise.nil, (fun x hx => by cases hx), (by rw [hz]; decide)⟩, hm, hz⟩
    rw [hb] at hx
    obtain ⟨c, _, rfl⟩ := List.mem_map.1 hx
    exact Int.le_refl 0
  · cases e
theorem run_V {l : List Step} : ∀ {h : House}, V h → V (runFrom h l) ∧ (runFrom h l).b.map (·.c) = h.b.map (·.c) := by
  induction l with
  | nil => exact fun v => ⟨v, rfl⟩
  | cons s l ih =>
    intro h v
    rw [runFrom]
    split
    · rename_i e
      obtain ⟨a, b, _⟩ := step_ok v e
      obtain ⟨c, d⟩ := ih a
      exact ⟨c, d.trans b⟩
    · exact ih v
theorem runOf_V {cl : List Int} {l : List Step} (e : (runOf cl l).2 = true) : V (runOf cl l).1 ∧ (runOf cl l).1.b.map (·.c) = cl := by
  unfold runOf at e ⊢
  split at e
  · cases e
  · rename_i hn
    rw [if_neg hn]
    have hn' : newE cl = 0 := by simpa using hn
    obtain ⟨v, hm, _⟩ := new_V hn'
    obtain ⟨a, b⟩ := run_V (l := l) v
    exact ⟨a, b.trans hm⟩
end Go.Proofs.Ytpkbecaailhhmaa
