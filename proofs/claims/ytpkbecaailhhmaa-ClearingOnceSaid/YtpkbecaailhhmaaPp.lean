/-
  Plain laws of chapter 39, fifth part: moves, settling once, the order of settlements.
-/
import Derived.Test.YtpkbecaailhhmaaPo
set_option linter.unusedVariables false
set_option linter.unusedSimpArgs false
namespace Go.Proofs.Ytpkbecaailhhmaa
open Go.DL

/-! ### moves -/
def lastA (c m : Int) : List Pay → Int
  | [] => m
  | p :: ps => lastA c (if p.c = c then p.a else m) ps
theorem lastA_none {c m : Int} {ps : List Pay} (h : ∀ p ∈ ps, p.c ≠ c) : lastA c m ps = m := by
  induction ps with
  | nil => rfl
  | cons p ps ih => rw [lastA, if_neg (h p List.mem_cons_self), ih fun q hq => h q (List.mem_cons_of_mem _ hq)]
theorem lastA_eq {c : Int} {ps : List Pay} (hp : (ps.map (·.c)).Pairwise (· < ·)) : lastA c 0 ps = amtZ c ps := by
  induction ps with
  | nil => rfl
  | cons p ps ih =>
    rw [List.map_cons, List.pairwise_cons] at hp
    rw [lastA, amtZ]
    by_cases h : p.c = c
    · have hn : ∀ q ∈ ps, q.c ≠ c := fun q hq => by have := hp.1 _ (List.mem_map.2 ⟨q, hq, rfl⟩); omega
      simp only [if_pos h]; rw [lastA_none hn, amt_none hn, Int.add_zero]
    · simp only [if_neg h]; rw [ih hp.2, Int.zero_add]
theorem lastA_step {c m : Int} {ps : List Pay} {k : Nat} {p : Pay} {r : Int} (iv : lastA c m (ps.drop k) = r) (hx : ps[k]? = some p) : lastA c (if p.c = c then p.a else m) (ps.drop (k + 1)) = r := by
  rw [← iv, drop_cons hx, lastA]
theorem lastA_yes {c m : Int} {ps : List Pay} {k : Nat} {p : Pay} {r : Int} (iv : lastA c m (ps.drop k) = r) (hx : ps[k]? = some p) (h : p.c = c) : lastA c p.a (ps.drop (k + 1)) = r := by
  rw [← iv, drop_cons hx, lastA, if_pos h]
theorem lastA_not {c m : Int} {ps : List Pay} {k : Nat} {p : Pay} {r : Int} (iv : lastA c m (ps.drop k) = r) (hx : ps[k]? = some p) (h : p.c ≠ c) : lastA c m (ps.drop (k + 1)) = r := by
  rw [← iv, drop_cons hx, lastA, if_neg h]
theorem lastA_end {c m : Int} {ps : List Pay} {k : Nat} {r : Int} (iv : lastA c m (ps.drop k) = r) (h : ps.length ≤ k) : m = r := by
  rw [← iv, List.drop_eq_nil_of_le h]; rfl
theorem pair2 {a : House × Int} (e : a.2 = 0) : a = (a.1, 0) := by rw [← e]
theorem bal_le {h : House} (v : V h) (c : Int) : (bal c h.b).1 ≤ 1125899906842624 := by
  have key : ∀ l : List Pay, Small l → (bal c l).1 ≤ 1125899906842624 := by
    intro l
    induction l with
    | nil => intro _; exact (by decide : (0 : Int) ≤ 1125899906842624)
    | cons x l ih =>
      intro hl
      rw [bal]; split
      · exact (hl x List.mem_cons_self).2
      · exact ih fun y hy => hl y (List.mem_cons_of_mem _ hy)
  exact key h.b v.small
theorem ins_get (l : List Hold) (y : Hold) (k : Nat) (hk : k ≤ l.length) : (l.take k ++ [y] ++ l.drop k)[k]? = some y := by
  rw [List.append_assoc, List.getElem?_append_right (by rw [List.length_take]; omega), List.length_take, Nat.min_eq_left hk]
  simp
section
variable {h : House} {t p : Int} {l : List Pay}
theorem mv_V (v : V h) (e : (held h t p l).2 = 0) : V (held h t p l).1 := (held_ok v (pair2 e)).1
theorem mv_get (v : V h) (e : (held h t p l).2 = 0) : (held h t p l).1.h[bsAt (h.h.map (·.t)) t]? = some ⟨t, p, l, 1⟩ := by
  obtain ⟨_, _, _, _, _, _, he⟩ := held_ok v (pair2 e)
  rw [he]
  exact ins_get _ _ _ (bsAt_le_h _ _ _)
theorem mv_set (v : V h) (e : (held h t p l).2 = 0) (pd : Bool) : settled (held h t p l).1 t pd = (setl (held h t p l).1 (bsAt (h.h.map (·.t)) t) ⟨t, p, l, 1⟩ pd, 0) := by
  have := settled_eq (mv_V v e) (mv_get v e) pd
  rw [if_pos rfl] at this
  exact this
theorem mv_settle (v : V h) (e : (held h t p l).2 = 0) (pd : Bool) : (settled (held h t p l).1 t pd).2 = 0 := by rw [mv_set v e]
theorem mv_bal (v : V h) (e : (held h t p l).2 = 0) {c : Int} (hc : c ∈ h.b.map (·.c)) : (bal c (held h t p l).1.b).1 = (bal c h.b).1 + (if p = c then -(sumZ l) else 0) := by
  obtain ⟨_, _, _, _, hm, hp, he⟩ := held_ok v (pair2 e)
  have s0 := sumZ_nonneg (fun y hy => (pays_small hp y hy).1)
  have s1 := hp.sum
  rw [he]
  show (bal c (cred h.b [⟨p, -(sumZ l)⟩])).1 = _
  rw [bal_cred v (mod_one (by omega) (by omega)) c hc]
  simp only [amtZ, Int.add_zero]
theorem mv_sum (v : V h) (e : (held h t p l).2 = 0) : sumFrom 0 l = sumZ l ∧ 0 ≤ sumZ l ∧ sumZ l ≤ 1125899906842624 := by
  obtain ⟨_, _, _, _, _, hp, _⟩ := held_ok v (pair2 e)
  exact ⟨pays_sum0 hp, sumZ_nonneg (fun y hy => (pays_small hp y hy).1), hp.sum⟩
theorem mv_eq (v : V h) (e : (held h t p l).2 = 0) {c : Int} (hc : c ∈ h.b.map (·.c)) (hp : c = p) : (bal c (held h t p l).1.b).1 = IntKind.i64.wrap ((bal c h.b).1 - sumFrom 0 l) := by
  obtain ⟨h1, h2, h3⟩ := mv_sum v e
  have := bal_nonneg v c
  have := bal_le v c
  rw [mv_bal v e hc, if_pos hp.symm, h1, wrap_in (by omega) (by omega)]; omega
theorem mv_ne (v : V h) (e : (held h t p l).2 = 0) {c : Int} (hc : c ∈ h.b.map (·.c)) (hp : c ≠ p) : (bal c (held h t p l).1.b).1 = IntKind.i64.wrap ((bal c h.b).1 - 0) := by
  have := bal_nonneg v c
  have := bal_le v c
  rw [mv_bal v e hc, if_neg (fun q => hp q.symm), wrap_in (by omega) (by omega)]; omega
theorem mv_done (v : V h) (e : (held h t p l).2 = 0) {c m : Int} (hc : c ∈ h.b.map (·.c)) (hm : m = lastA c 0 l) : (bal c (settled (held h t p l).1 t true).1.b).1 = IntKind.i64.wrap ((bal c (held h t p l).1.b).1 + m) := by
  obtain ⟨v', hcl, _, _, _, hp, _⟩ := held_ok v (pair2 e)
  have hc' : c ∈ (held h t p l).1.b.map (·.c) := by rw [hcl]; exact hc
  have ha := amt_nonneg (c := c) (fun q hq => (pays_small hp q hq).1)
  have hb : (bal c (settled (held h t p l).1 t true).1.b).1 = (bal c (held h t p l).1.b).1 + amtZ c l := by
    rw [mv_set v e]
    show (bal c (cred (held h t p l).1.b l)).1 = _
    rw [bal_cred v' (mod_pays hp) c hc']
  have h1 := bal_nonneg v' c
  have h2 := bal_le v' c
  have h3 : amtZ c l ≤ sumZ l := by
    clear hb
    have hsm := pays_small hp
    clear hp hm ha
    induction l with
    | nil => exact Int.le_refl 0
    | cons q l ih =>
      have := hsm q List.mem_cons_self
      have := sumZ_nonneg (fun y hy => (hsm y (List.mem_cons_of_mem _ hy)).1)
      have hi : amtZ c l ≤ sumZ l := by
        have key : ∀ l : List Pay, Small l → amtZ c l ≤ sumZ l := by
          intro l
          induction l with
          | nil => intro _; exact Int.le_refl 0
          | cons q l ih =>
            intro hs
            have := hs q List.mem_cons_self
            have := ih fun y hy => hs y (List.mem_cons_of_mem _ hy)
            simp only [amtZ, sumZ]; split <;> omega
        exact key l fun y hy => hsm y (List.mem_cons_of_mem _ hy)
      simp only [amtZ, sumZ]; split <;> omega
  have h4 := hp.sum
  rw [hb, hm, lastA_eq hp.pw, wrap_in (by omega) (by omega)]
theorem mv_back (v : V h) (e : (held h t p l).2 = 0) {c : Int} (hc : c ∈ h.b.map (·.c)) : (bal c (settled (held h t p l).1 t false).1.b).1 = (bal c h.b).1 := by
  obtain ⟨v', hcl, _, _, _, hp, _⟩ := held_ok v (pair2 e)
  have hc' : c ∈ (held h t p l).1.b.map (·.c) := by rw [hcl]; exact hc
  obtain ⟨_, h2, h3⟩ := mv_sum v e
  have hb : (bal c (settled (held h t p l).1 t false).1.b).1 = (bal c (held h t p l).1.b).1 + amtZ c [⟨p, sumZ l⟩] := by
    rw [mv_set v e]
    show (bal c (cred (held h t p l).1.b [⟨p, sumZ l⟩])).1 = _
    rw [bal_cred v' (mod_one (by omega) h3) c hc']
  rw [hb, mv_bal v e hc]
  simp only [amtZ]
  split <;> omega
end

/-! ### settling once -/
def metOf (x y : Hold) : Bool := y.t == x.t && (y.p == x.p && (x.s == 1 || y.s == x.s))
def Ext (h y : House) : Prop := ∀ x ∈ h.h, ∃ z ∈ y.h, metOf x z = true
theorem ext_refl (h : House) : Ext h h := fun x hx => ⟨x, hx, by simp [metOf]⟩
theorem ext_step {h y : House} {s : Step} (x : Ext h y) (v : V y) (e : (stepOf y s).2 = 0) : Ext h (stepOf y s).1 := by
  intro a ha
  obtain ⟨z, hz, hm⟩ := x a ha
  unfold stepOf at e ⊢
  by_cases h0 : s.k = 0
  · rw [if_pos h0] at e ⊢
    obtain ⟨_, _, _, hh, _⟩ := paid_ok v (pair2 e)
    exact ⟨z, by rw [hh]; exact hz, hm⟩
  · rw [if_neg h0] at e ⊢
    by_cases h1 : s.k = 1
    · rw [if_pos h1] at e ⊢
      obtain ⟨_, _, _, _, _, _, he⟩ := held_ok v (pair2 e)
      refine ⟨z, ?_, hm⟩
      rw [he]
      simp only [List.mem_append]
      rw [← List.take_append_drop (bsAt (y.h.map (·.t)) s.t) y.h] at hz
      rcases List.mem_append.1 hz with hz | hz
      · exact .inl (.inl hz)
      · exact .inr hz
    · rw [if_neg h1] at e ⊢
      obtain ⟨k, q, hq, ht, hs, he⟩ := settled_ok v (pair2 e)
      rw [he]
      by_cases hzq : z = q
      · subst hzq
        refine ⟨⟨z.t, z.p, z.ps, if s.pd = true then 2 else 3⟩, ?_, ?_⟩
        · exact List.mem_iff_getElem?.2 ⟨k, by
            show (y.h.set k _)[k]? = _
            rw [List.getElem?_set_self (List.getElem?_eq_some_iff.1 hq).1]⟩
        · simp only [metOf, Bool.and_eq_true, beq_iff_eq, Bool.or_eq_true] at hm ⊢
          exact ⟨hm.1, hm.2.1, .inl (by rcases hm.2.2 with g | g <;> omega)⟩
      · refine ⟨z, ?_, hm⟩
        obtain ⟨j, hj⟩ := List.mem_iff_getElem?.1 hz
        have hjk : k ≠ j := fun g => by subst g; rw [hq] at hj; exact hzq (Option.some.inj hj).symm
        exact List.mem_iff_getElem?.2 ⟨j, by
          show (y.h.set k _)[j]? = _
          rw [List.getElem?_set_ne hjk]; exact hj⟩
theorem ext_any {h y : House} {x : Hold} {k : Nat} (e : Ext h y) (hx : h.h[k]? = some x) : y.h.any (metOf x) = true := by
  obtain ⟨z, hz, hm⟩ := e x (List.mem_of_getElem? hx)
  exact List.any_eq_true.2 ⟨z, hz, hm⟩
theorem once_settle {h : House} (v : V h) {x : Hold} {k : Nat} (hx : h.h[k]? = some x) (pd : Bool) : ((settled h x.t pd).2 == 0) = (x.s == 1) := by
  rw [settled_eq v hx]
  by_cases hs : x.s = 1
  · rw [if_pos hs]; simp [hs]
  · rw [if_neg hs]; simp [hs]

/-! ### the order of settlements -/
theorem order_ok {h : House} {a b : Int} {p q : Bool} (v : V h) (hab : a ≠ b) (e1 : (settled h a p).2 = 0) (e2 : (settled h b q).2 = 0) :
    (settled (settled h a p).1 b q).2 = 0 ∧ settled (settled h a p).1 b q = settled (settled h b q).1 a p := by
  obtain ⟨k1, x1, hx1, ht1, hs1, he1⟩ := settled_ok v (pair2 e1)
  obtain ⟨k2, x2, hx2, ht2, hs2, he2⟩ := settled_ok v (pair2 e2)
  have hk : k1 ≠ k2 := fun g => by subst g; rw [hx1] at hx2; cases hx2; omega
  obtain ⟨v1, c1, _⟩ := setl_ok v hx1 hs1 p
  obtain ⟨v2, c2, _⟩ := setl_ok v hx2 hs2 q
  have g1 : (setl h k1 x1 p).h[k2]? = some x2 := by
    show (h.h.set k1 _)[k2]? = _
    rw [List.getElem?_set_ne hk]; exact hx2
  have g2 : (setl h k2 x2 q).h[k1]? = some x1 := by
    show (h.h.set k2 _)[k1]? = _
    rw [List.getElem?_set_ne (Ne.symm hk)]; exact hx1
  have r1 : settled (settled h a p).1 b q = (setl (setl h k1 x1 p) k2 x2 q, 0) := by
    rw [he1, ← ht2, settled_eq v1 g1 q, if_pos hs2]
  have r2 : settled (settled h b q).1 a p = (setl (setl h k2 x2 q) k1 x1 p, 0) := by
    rw [he2, ← ht1, settled_eq v2 g2 p, if_pos hs1]
  refine ⟨by rw [r1], ?_⟩
  rw [r1, r2]
  have w1 := v.ho x1 (List.mem_of_getElem? hx1)
  have w2 := v.ho x2 (List.mem_of_getElem? hx2)
  have mods : ∀ (x : Hold), HoldV (hasR h) x → ∀ b : Bool, Mod (if b = true then x.ps else [⟨x.p, sumZ x.ps⟩]) := by
    intro x w b
    have s0 := sumZ_nonneg (fun y hy => (pays_small w.ps y hy).1)
    cases b with
    | true => exact mod_pays w.ps
    | false => exact mod_one (by omega) w.ps.sum
  have m1 := mods x1 w1 p
  have m2 := mods x2 w2 q
  have hb : (setl (setl h k1 x1 p) k2 x2 q).b = (setl (setl h k2 x2 q) k1 x1 p).b := by
    show cred (setl h k1 x1 p).b _ = cred (setl h k2 x2 q).b _
    rw [cred_eq (clubs_pw v1.cl), cred_eq (clubs_pw v2.cl)]
    have b1 : (setl h k1 x1 p).b = h.b.map fun x => addAll x (if p = true then x1.ps else [⟨x1.p, sumZ x1.ps⟩]) := cred_eq (clubs_pw v.cl) _
    have b2 : (setl h k2 x2 q).b = h.b.map fun x => addAll x (if q = true then x2.ps else [⟨x2.p, sumZ x2.ps⟩]) := cred_eq (clubs_pw v.cl) _
    have i1 : ∀ x ∈ h.b, addAll x (if p = true then x1.ps else [⟨x1.p, sumZ x1.ps⟩]) ∈ (setl h k1 x1 p).b := fun x hx => by rw [b1]; exact List.mem_map.2 ⟨x, hx, rfl⟩
    have i2 : ∀ x ∈ h.b, addAll x (if q = true then x2.ps else [⟨x2.p, sumZ x2.ps⟩]) ∈ (setl h k2 x2 q).b := fun x hx => by rw [b2]; exact List.mem_map.2 ⟨x, hx, rfl⟩
    generalize hq1 : (if p = true then x1.ps else [⟨x1.p, sumZ x1.ps⟩]) = q1 at *
    generalize hq2 : (if q = true then x2.ps else [⟨x2.p, sumZ x2.ps⟩]) = q2 at *
    rw [b1, b2, List.map_map, List.map_map]
    refine List.map_congr_left fun x hx => ?_
    show addAll (addAll x q1) q2 = addAll (addAll x q2) q1
    have e1 := v1.add m2 (i1 x hx)
    have e2 := v2.add m1 (i2 x hx)
    have f1 := v.add m1 hx
    have f2 := v.add m2 hx
    have cc : ∀ a b : Pay, a.c = b.c → a.a = b.a → a = b := fun a b h1 h2 => by cases a; cases b; simp_all
    refine cc _ _ (by rw [addAll_c, addAll_c, addAll_c, addAll_c]) ?_
    rw [e1, e2, f1, f2, addAll_c, addAll_c]; omega
  have hh : (setl (setl h k1 x1 p) k2 x2 q).h = (setl (setl h k2 x2 q) k1 x1 p).h := List.set_comm _ _ hk
  have : ∀ a b : House, a.b = b.b → a.h = b.h → a = b := fun a b h1 h2 => by cases a; cases b; simp_all
  rw [this _ _ hb hh]
end Go.Proofs.Ytpkbecaailhhmaa
