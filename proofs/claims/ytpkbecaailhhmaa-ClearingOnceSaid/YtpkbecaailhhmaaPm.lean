/-
  Plain laws of chapter 39, second part: exact sums; validity; what each movement keeps.
-/
import Derived.Test.YtpkbecaailhhmaaPl
set_option linter.unusedVariables false
set_option linter.unusedSimpArgs false
namespace Go.Proofs.Ytpkbecaailhhmaa
open Go.DL

def sumZ : List Pay → Int
  | [] => 0
  | p :: l => p.a + sumZ l
def heldZ : List Hold → Int
  | [] => 0
  | x :: l => (if x.s = 1 then sumZ x.ps else 0) + heldZ l
def totZ (h : House) : Int := sumZ h.b + heldZ h.h
def amtZ (c : Int) : List Pay → Int
  | [] => 0
  | p :: ps => (if p.c = c then p.a else 0) + amtZ c ps
def Small (l : List Pay) : Prop := ∀ x ∈ l, 0 ≤ x.a ∧ x.a ≤ 1125899906842624

theorem wrap_in {x : Int} (h1 : -9223372036854775808 ≤ x) (h2 : x ≤ 9223372036854775807) : IntKind.i64.wrap x = x := i64_wrap h1 h2
theorem sumZ_nonneg {l : List Pay} (h : ∀ x ∈ l, 0 ≤ x.a) : 0 ≤ sumZ l := by
  induction l with
  | nil => exact Int.le_refl 0
  | cons p l ih =>
    have h1 := h p List.mem_cons_self
    have h2 := ih fun x hx => h x (List.mem_cons_of_mem _ hx)
    simp only [sumZ]; omega
theorem sumZ_mem {l : List Pay} (h : ∀ x ∈ l, 0 ≤ x.a) {x : Pay} (hx : x ∈ l) : x.a ≤ sumZ l := by
  induction l with
  | nil => cases hx
  | cons p l ih =>
    have h1 := h p List.mem_cons_self
    have h2 := sumZ_nonneg fun x hx => h x (List.mem_cons_of_mem _ hx)
    simp only [sumZ]
    rcases List.mem_cons.1 hx with rfl | hx
    · omega
    · have := ih (fun x hx => h x (List.mem_cons_of_mem _ hx)) hx; omega
theorem sumFrom_eq {l : List Pay} (h : Small l) : ∀ {n : Int}, 0 ≤ n → n + (l.length : Int) * 1125899906842624 ≤ 9223372036854775807 → sumFrom n l = n + sumZ l := by
  induction l with
  | nil => intro n _ _; simp [sumFrom, sumZ]
  | cons p l ih =>
    intro n hn hb
    have h1 := h p List.mem_cons_self
    simp only [List.length_cons] at hb
    rw [sumFrom, wrap_in (by omega) (by omega), ih (fun x hx => h x (List.mem_cons_of_mem _ hx)) (by omega) (by omega)]
    simp only [sumZ]; omega
theorem payLoop_spec {has : Int → Bool} {l : List Pay} : ∀ {p : Option Int} {n : Int}, payLoop has p n l = true → (∀ x ∈ l, has x.c = true ∧ 1 ≤ x.a ∧ x.a ≤ 1125899906842624 ∧ ∀ q, p = some q → q < x.c) ∧ (l.map (·.c)).Pairwise (· < ·) ∧
    (0 ≤ n → n + (l.length : Int) * 1125899906842624 ≤ 9223372036854775807 → n + sumZ l ≤ 1125899906842624) := by
  induction l with
  | nil => intro p n h; rw [payLoop, decide_eq_true_eq] at h; exact ⟨by simp, List.Pairwise.nil, fun _ _ => by simp [sumZ]; exact h⟩
  | cons x l ih =>
    intro p n h
    rw [payLoop] at h
    split at h
    · cases h
    · rename_i hc
      obtain ⟨h1, h2, h3⟩ := ih h
      have hx : has x.c = true := by cases hh : has x.c with | true => rfl | false => exact absurd (.inl hh) hc
      have ha : 1 ≤ x.a := Int.not_lt.1 fun e => hc (.inr (.inl e))
      have hb : x.a ≤ 1125899906842624 := Int.not_lt.1 fun e => hc (.inr (.inr (.inl e)))
      have hp : ∀ q, p = some q → q < x.c := by
        rintro q rfl
        exact Int.not_le.1 fun e => hc (.inr (.inr (.inr (by simpa [notBehind] using e))))
      refine ⟨fun y hy => ?_, ?_, fun hn hl => ?_⟩
      · rcases List.mem_cons.1 hy with rfl | hy
        · exact ⟨hx, ha, hb, hp⟩
        · obtain ⟨g1, g2, g3, g4⟩ := h1 y hy
          exact ⟨g1, g2, g3, fun q hq => by have := hp q hq; have := g4 _ rfl; omega⟩
      · rw [List.map_cons, List.pairwise_cons]
        refine ⟨fun c hcm => ?_, h2⟩
        obtain ⟨y, hy, rfl⟩ := List.mem_map.1 hcm
        exact (h1 y hy).2.2.2 _ rfl
      · simp only [List.length_cons] at hl
        have := h3 (by rw [wrap_in (by omega) (by omega)]; omega) (by rw [wrap_in (by omega) (by omega)]; omega)
        rw [wrap_in (by omega) (by omega)] at this
        simp only [sumZ]; omega
structure Pays (has : Int → Bool) (l : List Pay) : Prop where
  len : l.length ≤ 64
  has : ∀ x ∈ l, has x.c = true
  pos : ∀ x ∈ l, 1 ≤ x.a ∧ x.a ≤ 1125899906842624
  pw : (l.map (·.c)).Pairwise (· < ·)
  sum : sumZ l ≤ 1125899906842624
theorem pays_of {has : Int → Bool} {l : List Pay} (h : paysOK has l = true) : Pays has l := by
  unfold paysOK at h
  split at h
  · cases h
  · obtain ⟨h1, h2, h3⟩ := payLoop_spec h
    have := h3 (Int.le_refl 0) (by omega)
    exact ⟨by omega, fun x hx => (h1 x hx).1, fun x hx => ⟨(h1 x hx).2.1, (h1 x hx).2.2.1⟩, h2, by omega⟩
theorem pays_small {has : Int → Bool} {l : List Pay} (h : Pays has l) : Small l := fun x hx => ⟨by have := h.pos x hx; omega, (h.pos x hx).2⟩
theorem pays_sum0 {has : Int → Bool} {l : List Pay} (h : Pays has l) : sumFrom 0 l = sumZ l := by
  have := h.len
  rw [sumFrom_eq (pays_small h) (Int.le_refl 0) (by omega)]; omega
structure HoldV (has : Int → Bool) (x : Hold) : Prop where
  t1 : 1 ≤ x.t
  t2 : x.t ≤ 4096
  hp : has x.p = true
  ps : Pays has x.ps
  pk : paysOK has x.ps = true
  s1 : 1 ≤ x.s
  s2 : x.s ≤ 3
theorem holdV_iff {has : Int → Bool} {x : Hold} : holdOK has none x = true ↔ HoldV has x := by
  simp only [holdOK, Bool.and_eq_true, decide_eq_true_eq, Bool.not_eq_true', notBehind]
  constructor
  · rintro ⟨h1, h2, _, h3, h4, h5, h6⟩
    exact ⟨h1, h2, h3, pays_of h4, h4, h5, h6⟩
  · intro h
    exact ⟨h.t1, h.t2, trivial, h.hp, h.pk, h.s1, h.s2⟩
theorem heldFrom_eq {has : Int → Bool} {l : List Hold} (h : ∀ x ∈ l, HoldV has x) : ∀ {n : Int}, 0 ≤ n → n + (l.length : Int) * 1125899906842624 ≤ 9223372036854775807 → heldFrom n l = n + heldZ l := by
  induction l with
  | nil => intro n _ _; simp [heldFrom, heldZ]
  | cons x l ih =>
    intro n hn hb
    have h1 := h x List.mem_cons_self
    have h2 := h1.ps.sum
    have h3 := sumZ_nonneg (fun y hy => (pays_small h1.ps y hy).1)
    simp only [List.length_cons] at hb
    rw [heldFrom, pays_sum0 h1.ps]
    simp only [heldZ]
    split
    · rw [wrap_in (by omega) (by omega), ih (fun x hx => h x (List.mem_cons_of_mem _ hx)) (by omega) (by omega)]; omega
    · rw [ih (fun x hx => h x (List.mem_cons_of_mem _ hx)) (by omega) (by omega)]; omega
theorem heldZ_nonneg {has : Int → Bool} {l : List Hold} (h : ∀ x ∈ l, HoldV has x) : 0 ≤ heldZ l := by
  induction l with
  | nil => exact Int.le_refl 0
  | cons x l ih =>
    have h1 := h x List.mem_cons_self
    have h3 := sumZ_nonneg (fun y hy => (pays_small h1.ps y hy).1)
    have := ih fun x hx => h x (List.mem_cons_of_mem _ hx)
    simp only [heldZ]; split <;> omega
theorem heldZ_append (a b : List Hold) : heldZ (a ++ b) = heldZ a + heldZ b := by
  induction a with
  | nil => simp [heldZ]
  | cons x a ih => simp only [List.cons_append, heldZ, ih]; omega
def valZ (x : Hold) : Int := if x.s = 1 then sumZ x.ps else 0
theorem heldZ_set {l : List Hold} {k : Nat} {x : Hold} (h : l[k]? = some x) (y : Hold) : heldZ (l.set k y) = heldZ l - valZ x + valZ y := by
  induction l generalizing k with
  | nil => simp at h
  | cons z l ih =>
    cases k with
    | zero => simp at h; subst h; simp only [List.set_cons_zero, heldZ, valZ]; omega
    | succ k =>
      have := ih (k := k) (by simpa using h)
      simp only [List.set_cons_succ, heldZ, this]; omega
theorem heldZ_ins (l : List Hold) (k : Nat) (y : Hold) : heldZ (l.take k ++ [y] ++ l.drop k) = heldZ l + valZ y := by
  have h1 := heldZ_append (l.take k) (l.drop k)
  rw [List.take_append_drop] at h1
  rw [heldZ_append, heldZ_append, h1]
  simp only [heldZ, valZ]; omega
theorem pw_len {l : List Int} (hp : l.Pairwise (· < ·)) : ∀ {a b : Int}, a ≤ b + 1 → (∀ x ∈ l, a ≤ x ∧ x ≤ b) → (l.length : Int) ≤ b - a + 1 := by
  induction l with
  | nil => intro a b h _; simp; omega
  | cons x l ih =>
    intro a b h hx
    rw [List.pairwise_cons] at hp
    have h0 := hx x List.mem_cons_self
    have := ih hp.2 (a := x + 1) (b := b) (by omega) fun y hy => ⟨by have := hp.1 y hy; omega, (hx y (List.mem_cons_of_mem _ hy)).2⟩
    simp only [List.length_cons]; omega

/-- A valid house, in exact numbers. -/
structure V (h : House) : Prop where
  cl : areClubs (h.b.map (·.c)) = true
  nn : ∀ x ∈ h.b, 0 ≤ x.a
  pw : (h.h.map (·.t)).Pairwise (· < ·)
  ho : ∀ x ∈ h.h, HoldV (hasR h) x
  to : totZ h ≤ 1125899906842624
theorem clubs_range {l : List Int} (h : areClubs l = true) : ∀ c ∈ l, 0 ≤ c ∧ c < 192 := by
  unfold areClubs at h
  rw [Bool.and_eq_true] at h
  exact fun c hc => ((inc_pw h.1).1 c hc).2
theorem V.lb {h : House} (v : V h) : h.b.length ≤ 192 := by
  have := pw_len (clubs_pw v.cl) (a := 0) (b := 191) (by omega) fun x hx => by have := clubs_range v.cl x hx; omega
  rw [List.length_map] at this; omega
theorem V.lh {h : House} (v : V h) : h.h.length ≤ 4096 := by
  have := pw_len v.pw (a := 1) (b := 4096) (by omega) fun x hx => by
    obtain ⟨y, hy, rfl⟩ := List.mem_map.1 hx
    exact ⟨(v.ho y hy).t1, (v.ho y hy).t2⟩
  rw [List.length_map] at this; omega
theorem V.small {h : House} (v : V h) : Small h.b := fun x hx => ⟨v.nn x hx, by
  have h1 := sumZ_mem v.nn hx
  have h2 := heldZ_nonneg v.ho
  have h3 := v.to
  unfold totZ at h3; omega⟩
theorem total_of {h : House} (hs : Small h.b) (hb : h.b.length ≤ 192) (hl : h.h.length ≤ 4096) (ho : ∀ x ∈ h.h, HoldV (hasR h) x) : total h = totZ h := by
  unfold total totZ
  have h0 : sumFrom 0 h.b = sumZ h.b := by rw [sumFrom_eq hs (Int.le_refl 0) (by omega)]; omega
  have h1 := sumZ_nonneg (fun y hy => (hs y hy).1)
  have h2 : sumZ h.b ≤ (h.b.length : Int) * 1125899906842624 := by
    clear h0 h1 hb
    generalize h.b = l at hs ⊢
    induction l with
    | nil => simp [sumZ]
    | cons p l ih =>
      have := hs p List.mem_cons_self
      have := ih fun x hx => hs x (List.mem_cons_of_mem _ hx)
      simp only [sumZ, List.length_cons]; omega
  rw [h0, heldFrom_eq ho h1 (by omega)]
theorem V.total {h : House} (v : V h) : total h = totZ h := total_of v.small v.lb v.lh v.ho
theorem amounts_of {l : List Pay} : amountsOK l = true ↔ Small l := by
  induction l with
  | nil => simp [amountsOK, Small]
  | cons p l ih =>
    rw [amountsOK]
    constructor
    · intro h
      split at h
      · cases h
      · intro x hx
        rcases List.mem_cons.1 hx with rfl | hx
        · omega
        · exact ih.1 h x hx
    · intro h
      have := h p List.mem_cons_self
      rw [if_neg (by omega)]
      exact ih.2 fun x hx => h x (List.mem_cons_of_mem _ hx)
theorem V.check {h : House} (v : V h) : check h = 0 :=
  check_of_ok ⟨v.lb, v.lh, amounts_of.2 v.small, v.cl, pw_holds v.pw fun x hx => ⟨holdV_iff.2 (v.ho x hx), fun _ h => by cases h⟩, by rw [v.total]; exact v.to⟩
theorem V.of_check {h : House} (e : Go.Proofs.Ytpkbecaailhhmaa.check h = 0) : V h := by
  have o := ok_of_check e
  have hh := holds_pw o.ho
  have ho : ∀ x ∈ h.h, HoldV (hasR h) x := fun x hx => holdV_iff.1 (hh.2 x hx).1
  have hs := amounts_of.1 o.am
  exact ⟨o.cl, fun x hx => (hs x hx).1, hh.1, ho, by rw [← total_of hs o.lb o.lh ho]; exact o.to⟩

/-! ### credits in exact numbers -/
theorem addAll_a {ps : List Pay} (hp : ∀ p ∈ ps, -1125899906842624 ≤ p.a ∧ p.a ≤ 1125899906842624) : ∀ {x : Pay} {B : Int}, -B ≤ x.a → x.a ≤ B → B + (ps.length : Int) * 1125899906842624 ≤ 9223372036854775807 → (addAll x ps).a = x.a + amtZ x.c ps := by
  induction ps with
  | nil => intro x B _ _ _; simp [addAll, amtZ]
  | cons p ps ih =>
    intro x B h1 h2 hb
    have hp0 := hp p List.mem_cons_self
    simp only [List.length_cons] at hb
    rw [addAll_cons]
    have hc := add1_c p x
    by_cases h : p.c = x.c
    · have ha : (add1 p x).a = x.a + p.a := by unfold add1; rw [if_pos h, wrap_in (by omega) (by omega)]
      rw [ih (fun q hq => hp q (List.mem_cons_of_mem _ hq)) (B := B + 1125899906842624) (by omega) (by omega) (by omega), ha, hc]
      simp only [amtZ, if_pos h]; omega
    · have ha : add1 p x = x := by unfold add1; rw [if_neg h]
      rw [ha, ih (fun q hq => hp q (List.mem_cons_of_mem _ hq)) (B := B) h1 h2 (by omega)]
      simp only [amtZ, if_neg h]; omega
def Mod (ps : List Pay) : Prop := ps.length ≤ 64 ∧ ∀ p ∈ ps, -1125899906842624 ≤ p.a ∧ p.a ≤ 1125899906842624
theorem V.add {h : House} (v : V h) {ps : List Pay} (m : Mod ps) {x : Pay} (hx : x ∈ h.b) : (addAll x ps).a = x.a + amtZ x.c ps := by
  have := v.small x hx
  have := m.1
  exact addAll_a m.2 (B := 1125899906842624) (by omega) (by omega) (by omega)
theorem amt_none {c : Int} {ps : List Pay} (h : ∀ p ∈ ps, p.c ≠ c) : amtZ c ps = 0 := by
  induction ps with
  | nil => rfl
  | cons p ps ih =>
    rw [amtZ, if_neg (h p List.mem_cons_self), ih fun q hq => h q (List.mem_cons_of_mem _ hq)]; rfl
theorem amt_nonneg {c : Int} {ps : List Pay} (h : ∀ p ∈ ps, 0 ≤ p.a) : 0 ≤ amtZ c ps := by
  induction ps with
  | nil => exact Int.le_refl 0
  | cons p ps ih =>
    have := h p List.mem_cons_self
    have := ih fun q hq => h q (List.mem_cons_of_mem _ hq)
    rw [amtZ]; split <;> omega
def sumC (f : Int → Int) : List Int → Int
  | [] => 0
  | c :: l => f c + sumC f l
theorem sumC_add (f g : Int → Int) (l : List Int) : sumC (fun c => f c + g c) l = sumC f l + sumC g l := by
  induction l with
  | nil => rfl
  | cons c l ih => simp only [sumC, ih]; omega
theorem sumC_zero {f : Int → Int} {l : List Int} (h : ∀ c ∈ l, f c = 0) : sumC f l = 0 := by
  induction l with
  | nil => rfl
  | cons c l ih => rw [sumC, h c List.mem_cons_self, ih fun x hx => h x (List.mem_cons_of_mem _ hx)]; rfl
theorem sumC_one {l : List Int} (hp : l.Pairwise (· < ·)) {k : Int} (hk : k ∈ l) (a : Int) : sumC (fun c => if k = c then a else 0) l = a := by
  induction l with
  | nil => cases hk
  | cons c l ih =>
    rw [List.pairwise_cons] at hp
    rw [sumC]
    by_cases h : k = c
    · subst h
      rw [if_pos rfl, sumC_zero fun x hx => by have := hp.1 x hx; rw [if_neg (by omega)]]; omega
    · rw [if_neg h, ih hp.2 ((List.mem_cons.1 hk).resolve_left h)]; omega
theorem sumC_amt {l : List Int} (hp : l.Pairwise (· < ·)) {ps : List Pay} (h : ∀ p ∈ ps, p.c ∈ l) : sumC (fun c => amtZ c ps) l = sumZ ps := by
  induction ps with
  | nil => exact sumC_zero fun _ _ => rfl
  | cons p ps ih =>
    have := sumC_add (fun c => if p.c = c then p.a else 0) (fun c => amtZ c ps) l
    simp only [amtZ, sumZ]
    rw [this, sumC_one hp (h p List.mem_cons_self), ih fun q hq => h q (List.mem_cons_of_mem _ hq)]
theorem sumZ_cred {h : House} (v : V h) {ps : List Pay} (m : Mod ps) (hc : ∀ p ∈ ps, p.c ∈ h.b.map (·.c)) : sumZ (cred h.b ps) = sumZ h.b + sumZ ps := by
  rw [cred_eq (clubs_pw v.cl), ← sumC_amt (clubs_pw v.cl) hc]
  have key : ∀ l : List Pay, (∀ x ∈ l, x ∈ h.b) → sumZ (l.map fun x => addAll x ps) = sumZ l + sumC (fun c => amtZ c ps) (l.map (·.c)) := by
    intro l
    induction l with
    | nil => intro _; rfl
    | cons x l ih =>
      intro hl
      simp only [List.map_cons, sumZ, sumC, v.add m (hl x List.mem_cons_self), ih fun y hy => hl y (List.mem_cons_of_mem _ hy)]; omega
  exact key h.b fun _ hx => hx
theorem bal_cred {h : House} (v : V h) {ps : List Pay} (m : Mod ps) (c : Int) (hc : c ∈ h.b.map (·.c)) : (bal c (cred h.b ps)).1 = (bal c h.b).1 + amtZ c ps := by
  rw [cred_eq (clubs_pw v.cl)]
  have key : ∀ l : List Pay, (∀ x ∈ l, x ∈ h.b) → c ∈ l.map (·.c) → (bal c (l.map fun x => addAll x ps)).1 = (bal c l).1 + amtZ c ps := by
    intro l
    induction l with
    | nil => intro _ hc; cases hc
    | cons x l ih =>
      intro hl hcl
      simp only [List.map_cons, bal, addAll_c]
      by_cases hx : x.c = c
      · rw [if_pos hx, if_pos hx, v.add m (hl x List.mem_cons_self), hx]
      · rw [if_neg hx, if_neg hx]
        refine ih (fun y hy => hl y (List.mem_cons_of_mem _ hy)) ?_
        rw [List.map_cons, List.mem_cons] at hcl
        exact hcl.resolve_left fun e => hx e.symm
  exact key h.b (fun _ hx => hx) hc
theorem bal_get {b : List Pay} (hp : (b.map (·.c)).Pairwise (· < ·)) {x : Pay} (hx : x ∈ b) : (bal x.c b).1 = x.a := by
  induction b with
  | nil => cases hx
  | cons y l ih =>
    rw [List.map_cons, List.pairwise_cons] at hp
    rw [bal]
    rcases List.mem_cons.1 hx with rfl | hx
    · rw [if_pos rfl]
    · have := hp.1 _ (List.mem_map.2 ⟨x, hx, rfl⟩)
      rw [if_neg (by omega), ih hp.2 hx]
theorem bal_nonneg {h : House} (v : V h) (c : Int) : 0 ≤ (bal c h.b).1 := by
  have key : ∀ l : List Pay, (∀ x ∈ l, 0 ≤ x.a) → 0 ≤ (bal c l).1 := by
    intro l
    induction l with
    | nil => intro _; exact Int.le_refl 0
    | cons x l ih =>
      intro hl
      rw [bal]; split
      · exact hl x List.mem_cons_self
      · exact ih fun y hy => hl y (List.mem_cons_of_mem _ hy)
  exact key h.b v.nn
theorem hasR_mem {h : House} {c : Int} : hasR h c = true ↔ c ∈ h.b.map (·.c) := by
  unfold hasR; rw [bal_mem, decide_eq_true_eq]
theorem hasR_cred {h : House} (v : V h) (ps : List Pay) (H : List Hold) : hasR ⟨cred h.b ps, H⟩ = hasR h := by
  funext c
  unfold hasR
  rw [bal_mem, bal_mem, cred_c (clubs_pw v.cl)]
theorem V.cred {h : House} (v : V h) {ps : List Pay} (m : Mod ps) (hc : ∀ p ∈ ps, p.c ∈ h.b.map (·.c)) (hn : ∀ x ∈ h.b, 0 ≤ x.a + amtZ x.c ps) {H : List Hold} (hpw : (H.map (·.t)).Pairwise (· < ·)) (hho : ∀ x ∈ H, HoldV (hasR h) x)
    (ht : sumZ h.b + sumZ ps + heldZ H ≤ 1125899906842624) : V ⟨cred h.b ps, H⟩ ∧ totZ ⟨cred h.b ps, H⟩ = sumZ h.b + sumZ ps + heldZ H := by
  have e : totZ ⟨Go.Proofs.Ytpkbecaailhhmaa.cred h.b ps, H⟩ = sumZ h.b + sumZ ps + heldZ H := by unfold totZ; rw [sumZ_cred v m hc]
  refine ⟨⟨?_, ?_, hpw, ?_, by rw [e]; exact ht⟩, e⟩
  · show areClubs ((Go.Proofs.Ytpkbecaailhhmaa.cred h.b ps).map (·.c)) = true
    rw [cred_c (clubs_pw v.cl)]; exact v.cl
  · intro y hy
    rw [cred_eq (clubs_pw v.cl)] at hy
    obtain ⟨x, hx, rfl⟩ := List.mem_map.1 hy
    rw [v.add m hx]
    exact hn x hx
  · rw [hasR_cred v]; exact hho
end Go.Proofs.Ytpkbecaailhhmaa
