/-
  Plain laws of chapter 39, first part: the binary search, validity, credits; what the code computes is what the reference computes.
-/
import Derived.Test.YtpkbecaailhhmaaSp3
set_option linter.unusedVariables false
set_option linter.unusedSimpArgs false
namespace Go.Proofs.Ytpkbecaailhhmaa
open Go.DL

/-! ### sorted numbers and the search -/
theorem pw_get {ks : List Int} (h : ks.Pairwise (· < ·)) {i j : Nat} {x y : Int} (hi : ks[i]? = some x) (hj : ks[j]? = some y) (hij : i < j) : x < y := by
  obtain ⟨h1, rfl⟩ := List.getElem?_eq_some_iff.1 hi
  obtain ⟨h2, rfl⟩ := List.getElem?_eq_some_iff.1 hj
  exact List.pairwise_iff_getElem.1 h i j h1 h2 hij
theorem pw_inj {ks : List Int} (h : ks.Pairwise (· < ·)) {i j : Nat} {x : Int} (hi : ks[i]? = some x) (hj : ks[j]? = some x) : i = j := by
  rcases Nat.lt_trichotomy i j with h1 | h1 | h1
  · have := pw_get h hi hj h1; omega
  · exact h1
  · have := pw_get h hj hi h1; omega
theorem bs_spec {ks : List Int} {key : Int} (hs : ks.Pairwise (· < ·)) (i j : Nat) : i ≤ j → j ≤ ks.length →
    (∀ (m : Nat) (v : Int), m < i → ks[m]? = some v → v < key) → (∀ (m : Nat) (v : Int), j ≤ m → ks[m]? = some v → key ≤ v) →
    (∀ (m : Nat) (v : Int), m < bs ks key i j → ks[m]? = some v → v < key) ∧ (∀ (m : Nat) (v : Int), bs ks key i j ≤ m → ks[m]? = some v → key ≤ v) := by
  induction i, j using bs.induct ks key with
  | case1 i j h1 h2 ih =>
    intro _ hj ha hb
    rw [bs, if_pos h1, if_pos h2]
    have hlt : (i + j) / 2 < ks.length := by omega
    have hm : ks[(i + j) / 2]? = some ks[(i + j) / 2] := List.getElem?_eq_getElem hlt
    have hv : ks[(i + j) / 2] < key := by rw [List.getD, hm] at h2; exact h2
    refine ih (by omega) hj (fun m v hmi hmv => ?_) hb
    rcases Nat.lt_or_ge m ((i + j) / 2) with h | h
    · have := pw_get hs hmv hm h; omega
    · have : m = (i + j) / 2 := by omega
      subst this; rw [hm] at hmv; cases hmv; exact hv
  | case2 i j h1 h2 ih =>
    intro _ hj ha hb
    rw [bs, if_pos h1, if_neg h2]
    have hlt : (i + j) / 2 < ks.length := by omega
    have hm : ks[(i + j) / 2]? = some ks[(i + j) / 2] := List.getElem?_eq_getElem hlt
    have hv : ¬ ks[(i + j) / 2] < key := by rw [List.getD, hm] at h2; exact h2
    refine ih (by omega) (by omega) ha (fun m v hmi hmv => ?_)
    rcases Nat.lt_or_ge ((i + j) / 2) m with h | h
    · have := pw_get hs hm hmv h; omega
    · have : m = (i + j) / 2 := by omega
      subst this; rw [hm] at hmv; cases hmv; omega
  | case3 i j h1 =>
    intro hij _ ha hb
    rw [bs, if_neg h1]
    have : i = j := by omega
    subst this
    exact ⟨ha, hb⟩
theorem bsAt_spec {ks : List Int} (hs : ks.Pairwise (· < ·)) (key : Int) : (∀ (m : Nat) (v : Int), m < bsAt ks key → ks[m]? = some v → v < key) ∧ (∀ (m : Nat) (v : Int), bsAt ks key ≤ m → ks[m]? = some v → key ≤ v) :=
  bs_spec hs 0 ks.length (Nat.zero_le _) (Nat.le_refl _) (fun _ _ h => absurd h (Nat.not_lt_zero _)) (fun m v h1 h2 => by
    have := (List.getElem?_eq_some_iff.1 h2).1; omega)
theorem bsMet_mem {ks : List Int} (hs : ks.Pairwise (· < ·)) (key : Int) : bsMet ks key = decide (key ∈ ks) := by
  unfold bsMet
  rw [Bool.eq_iff_iff, decide_eq_true_iff, decide_eq_true_iff]
  constructor
  · intro h; exact List.mem_of_getElem? h
  · intro h
    obtain ⟨i, hi, he⟩ := List.mem_iff_getElem.1 h
    have hi' : ks[i]? = some key := by rw [List.getElem?_eq_getElem hi, he]
    have := bsAt_spec hs key
    rcases Nat.lt_trichotomy i (bsAt ks key) with h1 | h1 | h1
    · have := this.1 i key h1 hi'; omega
    · rw [← h1]; exact hi'
    · have hlt : bsAt ks key < ks.length := by omega
      have h2 := List.getElem?_eq_getElem hlt
      have h3 := this.2 _ _ (Nat.le_refl _) h2
      have h4 := pw_get hs h2 hi' h1
      omega
theorem bsAt_of {ks : List Int} (hs : ks.Pairwise (· < ·)) {key : Int} {i : Nat} (h : ks[i]? = some key) : bsAt ks key = i := by
  have hm : bsMet ks key = true := by rw [bsMet_mem hs]; exact decide_eq_true (List.mem_of_getElem? h)
  unfold bsMet at hm
  exact pw_inj hs (of_decide_eq_true hm) h

/-! ### clubs -/
theorem inc_pw {p : Int} {l : List Int} (h : incFrom p l = true) : (∀ c ∈ l, p < c ∧ 0 ≤ c ∧ c < 192) ∧ l.Pairwise (· < ·) := by
  induction l generalizing p with
  | nil => exact ⟨by simp, List.Pairwise.nil⟩
  | cons c l ih =>
    rw [incFrom] at h
    split at h
    · cases h
    · rename_i hc
      obtain ⟨h1, h2⟩ := ih h
      refine ⟨fun x hx => ?_, List.pairwise_cons.2 ⟨fun x hx => (h1 x hx).1, h2⟩⟩
      rcases List.mem_cons.1 hx with rfl | hx
      · omega
      · have := h1 x hx; omega
theorem pw_inc {p : Int} {l : List Int} (h : ∀ c ∈ l, p < c ∧ 0 ≤ c ∧ c < 192) (hp : l.Pairwise (· < ·)) : incFrom p l = true := by
  induction l generalizing p with
  | nil => rfl
  | cons c l ih =>
    have hc := h c List.mem_cons_self
    rw [incFrom, if_neg (by omega)]
    rw [List.pairwise_cons] at hp
    exact ih (fun x hx => ⟨hp.1 x hx, (h x (List.mem_cons_of_mem _ hx)).2⟩) hp.2
theorem clubs_pw {l : List Int} (h : areClubs l = true) : l.Pairwise (· < ·) := by
  unfold areClubs at h
  rw [Bool.and_eq_true] at h
  exact (inc_pw h.1).2
theorem bal_mem (c : Int) (l : List Pay) : (bal c l).2 = decide (c ∈ l.map (·.c)) := by
  induction l with
  | nil => rfl
  | cons p l ih =>
    rw [bal]
    split
    · rename_i h; simp [h]
    · rename_i h
      rw [ih, Bool.eq_iff_iff, decide_eq_true_iff, decide_eq_true_iff, List.map_cons, List.mem_cons]
      exact ⟨.inr, fun e => e.resolve_left (fun e => h e.symm)⟩
theorem hasB_eq {h : House} (hc : areClubs (h.b.map (·.c)) = true) : hasB h = hasR h := by
  funext c
  rw [hasB, hasR, bsMet_mem (clubs_pw hc), bal_mem]
theorem cw_eq (h : House) : checkWith hasR h = checkWith hasB h := by
  cases hc : areClubs (h.b.map (·.c)) with
  | false => rw [cw_clubs hc, cw_clubs hc]
  | true => unfold checkWith; rw [hasB_eq hc]
theorem checkR_eq (h : House) : checkR h = check h := by unfold checkR check; rw [cw_eq]

structure Ok (h : House) : Prop where
  lb : h.b.length ≤ 192
  lh : h.h.length ≤ 4096
  am : amountsOK h.b = true
  cl : areClubs (h.b.map (·.c)) = true
  ho : holdsFrom (hasR h) none h.h = true
  to : total h ≤ 1125899906842624
theorem ok_of_check {h : House} (e : check h = 0) : Ok h := by
  rw [← checkR_eq] at e
  unfold checkR at e
  split at e
  · rename_i hc
    simp only [checkWith, Bool.and_eq_true, decide_eq_true_eq] at hc
    exact ⟨hc.1, hc.2.1, hc.2.2.1, hc.2.2.2.1, hc.2.2.2.2.1, hc.2.2.2.2.2⟩
  · cases e
theorem check_of_ok {h : House} (o : Ok h) : check h = 0 := by
  rw [← checkR_eq]
  exact (chkR_yes (cw_ok o.lb o.lh o.am o.cl o.ho o.to)).symm
theorem check_01 (h : House) : check h = 0 ∨ check h = 1 := by unfold check; split <;> simp
theorem holds_pw {has : Int → Bool} {p : Option Int} {l : List Hold} (h : holdsFrom has p l = true) : (l.map (·.t)).Pairwise (· < ·) ∧ ∀ x ∈ l, holdOK has none x = true ∧ (∀ q, p = some q → q < x.t) := by
  induction l generalizing p with
  | nil => exact ⟨List.Pairwise.nil, by simp⟩
  | cons y l ih =>
    rw [holdsFrom, Bool.and_eq_true] at h
    obtain ⟨h1, h2⟩ := ih h.2
    have hy := h.1
    simp only [holdOK, Bool.and_eq_true, decide_eq_true_eq, Bool.not_eq_true'] at hy
    have hyp : ∀ q, p = some q → q < y.t := by
      rintro q rfl
      have := hy.2.2.1
      simp only [notBehind, decide_eq_false_iff_not] at this
      omega
    refine ⟨?_, fun x hx => ?_⟩
    · rw [List.map_cons, List.pairwise_cons]
      refine ⟨fun t ht => ?_, h1⟩
      obtain ⟨x, hx, rfl⟩ := List.mem_map.1 ht
      exact (h2 x hx).2 _ rfl
    · rcases List.mem_cons.1 hx with rfl | hx
      · refine ⟨?_, hyp⟩
        simp only [holdOK, Bool.and_eq_true, decide_eq_true_eq, Bool.not_eq_true', notBehind]
        exact ⟨hy.1, hy.2.1, trivial, hy.2.2.2⟩
      · exact ⟨(h2 x hx).1, fun q hq => by have := hyp q hq; have := (h2 x hx).2 _ rfl; omega⟩
theorem pw_holds {has : Int → Bool} {p : Option Int} {l : List Hold} (hp : (l.map (·.t)).Pairwise (· < ·)) (h : ∀ x ∈ l, holdOK has none x = true ∧ (∀ q, p = some q → q < x.t)) : holdsFrom has p l = true := by
  induction l generalizing p with
  | nil => rfl
  | cons y l ih =>
    rw [List.map_cons, List.pairwise_cons] at hp
    rw [holdsFrom, Bool.and_eq_true]
    refine ⟨?_, ih hp.2 fun x hx => ⟨(h x (List.mem_cons_of_mem _ hx)).1, fun q hq => ?_⟩⟩
    · obtain ⟨h1, h2⟩ := h y List.mem_cons_self
      simp only [holdOK, Bool.and_eq_true, decide_eq_true_eq, Bool.not_eq_true', notBehind] at h1 ⊢
      refine ⟨h1.1, h1.2.1, ?_, h1.2.2.2⟩
      cases p with
      | none => rfl
      | some q => have := h2 q rfl; simp only [notBehind, decide_eq_false_iff_not]; omega
    · cases hq; exact hp.1 _ (List.mem_map.2 ⟨x, hx, rfl⟩)

/-! ### credits -/
def add1 (p x : Pay) : Pay := if p.c = x.c then ⟨x.c, IntKind.i64.wrap (x.a + p.a)⟩ else x
theorem add1_c (p x : Pay) : (add1 p x).c = x.c := by unfold add1; split <;> rfl
theorem map_add1_c (p : Pay) (m : List Pay) : (m.map (add1 p)).map (·.c) = m.map (·.c) := by
  rw [List.map_map]; exact List.map_congr_left fun x _ => add1_c p x
theorem give_eq {m : List Pay} (hs : (m.map (·.c)).Pairwise (· < ·)) (p : Pay) : give m p = m.map (add1 p) := by
  cases hm : bsMet (m.map (·.c)) p.c with
  | false =>
    rw [give_not hm]
    rw [bsMet_mem hs] at hm
    have hn := of_decide_eq_false hm
    symm
    conv => rhs; rw [← List.map_id m]
    refine List.map_congr_left fun x hx => ?_
    unfold add1
    rw [if_neg (fun e => hn (List.mem_map.2 ⟨x, hx, e.symm⟩))]; rfl
  | true =>
    have hlt := met_lt hm
    have he := List.getElem?_eq_getElem hlt
    have hk : (m.map (·.c))[bsAt (m.map (·.c)) p.c]? = some p.c := of_decide_eq_true hm
    rw [give_met he hm]
    have hec : (m[bsAt (m.map (·.c)) p.c]).c = p.c := by
      rw [List.getElem?_map, he] at hk; simpa using hk
    refine List.ext_getElem? fun i => ?_
    rw [List.getElem?_set, List.getElem?_map]
    split
    · rename_i hi
      subst hi
      rw [he]
      simp only [Option.map_some, add1, hec, if_true]
    · rename_i hi
      cases hmi : m[i]? with
      | none => rfl
      | some x =>
        have : p.c ≠ x.c := fun e => hi (pw_inj hs hk (by rw [List.getElem?_map, hmi, e]; rfl))
        simp [add1, this]
theorem addAll_cons (x p : Pay) (ps : List Pay) : addAll x (p :: ps) = addAll (add1 p x) ps := by unfold add1; rw [addAll]
theorem addAll_c (x : Pay) (ps : List Pay) : (addAll x ps).c = x.c := by
  induction ps generalizing x with
  | nil => rfl
  | cons p ps ih => rw [addAll_cons, ih, add1_c]
theorem cred_eq {m : List Pay} (hs : (m.map (·.c)).Pairwise (· < ·)) (ps : List Pay) : cred m ps = m.map (fun x => addAll x ps) := by
  induction ps generalizing m with
  | nil =>
    rw [cred]; symm
    conv => rhs; rw [← List.map_id m]
    exact List.map_congr_left fun x _ => rfl
  | cons p ps ih =>
    rw [cred, give_eq hs, ih (by rw [map_add1_c]; exact hs), List.map_map]
    exact List.map_congr_left fun x _ => (addAll_cons x p ps).symm
theorem cred_c {m : List Pay} (hs : (m.map (·.c)).Pairwise (· < ·)) (ps : List Pay) : (cred m ps).map (·.c) = m.map (·.c) := by
  rw [cred_eq hs, List.map_map]; exact List.map_congr_left fun x _ => addAll_c x ps
theorem addR_eq {h : House} (o : Ok h) (ps : List Pay) : addR h ps = cred h.b ps := (cred_eq (clubs_pw o.cl) ps).symm

/-! ### the movements are the reference's -/
theorem paidR_eq (h : House) (c a : Int) : paidR h c a = paid h c a := by
  unfold paidR paid
  rw [checkR_eq]
  rcases check_01 h with e | e
  · have o := ok_of_check e
    rw [e, ← hasB_eq o.cl, addR_eq o]
    simp only [ne_eq, not_true_eq_false, if_false]
  · rw [e]; rfl
theorem heldAt_no {t : Int} {l : List Hold} {k : Nat} (h : ∀ x ∈ l, x.t ≠ t) : heldAt t l k = none := by
  induction l generalizing k with
  | nil => rfl
  | cons y l ih => rw [heldAt, if_pos (.inl (h y List.mem_cons_self)), ih fun x hx => h x (List.mem_cons_of_mem _ hx)]
theorem heldAt_of {t : Int} {l : List Hold} (hp : (l.map (·.t)).Pairwise (· < ·)) {j : Nat} {x : Hold} (hx : l[j]? = some x) (ht : x.t = t) (k : Nat) : heldAt t l k = if x.s = 1 then some (k + j, x) else none := by
  induction l generalizing j k with
  | nil => simp at hx
  | cons y l ih =>
    rw [List.map_cons, List.pairwise_cons] at hp
    cases j with
    | zero =>
      simp only [List.getElem?_cons_zero, Option.some.injEq] at hx
      subst hx
      rw [heldAt]
      by_cases h1 : y.s = 1
      · rw [if_neg (by simp [ht, h1]), if_pos h1, Nat.add_zero]
      · rw [if_pos (.inr h1), if_neg h1]
        exact heldAt_no fun x hx => by have := hp.1 _ (List.mem_map.2 ⟨x, hx, rfl⟩); omega
    | succ j =>
      have hx' : l[j]? = some x := by simpa using hx
      have := hp.1 _ (List.mem_map.2 ⟨x, List.mem_of_getElem? hx', rfl⟩)
      rw [heldAt, if_pos (.inl (by omega)), ih hp.2 hx' (k + 1)]
      split
      · congr 2; omega
      · rfl
theorem ok_pw {h : House} (o : Ok h) : (h.h.map (·.t)).Pairwise (· < ·) := (holds_pw o.ho).1
theorem settledR_eq (h : House) (t : Int) (pd : Bool) : settledR h t pd = settled h t pd := by
  unfold settledR settled
  rw [checkR_eq]
  rcases check_01 h with e | e
  · have o := ok_of_check e
    rw [e]
    simp only [ne_eq, not_true_eq_false, if_false]
    cases hm : bsMet (h.h.map (·.t)) t with
    | false =>
      rw [bsMet_mem (ok_pw o)] at hm
      have hn := of_decide_eq_false hm
      rw [heldAt_no fun x hx e => hn (List.mem_map.2 ⟨x, hx, e⟩)]
      rfl
    | true =>
      have hlt := met_lt hm
      have he := List.getElem?_eq_getElem hlt
      have hk : (h.h.map (·.t))[bsAt (h.h.map (·.t)) t]? = some t := of_decide_eq_true hm
      have hec : (h.h[bsAt (h.h.map (·.t)) t]).t = t := by
        rw [List.getElem?_map, he] at hk; simpa using hk
      rw [heldAt_of (ok_pw o) he hec 0, he]
      simp only [Bool.true_eq_false, if_false, ne_eq]
      by_cases h1 : (h.h[bsAt (h.h.map (·.t)) t]).s = 1
      · simp only [h1, if_true, not_true_eq_false, if_false, Nat.zero_add, addR_eq o]
      · simp only [h1, if_false, not_false_eq_true, if_true]
  · rw [e]; rfl
theorem lowT_eq {h : House} (o : Ok h) (t : Int) : lowT t h.h = bsAt (h.h.map (·.t)) t := by
  have key : ∀ (l : List Hold), (∀ (m : Nat) (v : Int), m < lowT t l → (l.map (·.t))[m]? = some v → v < t) ∧ ∀ v, (l.map (·.t))[lowT t l]? = some v → t ≤ v := by
    intro l
    induction l with
    | nil => exact ⟨by simp, by simp⟩
    | cons y l ih =>
      rw [lowT]
      split
      · rename_i hy
        refine ⟨fun m v hm hv => ?_, fun v hv => ih.2 v (by simpa using hv)⟩
        cases m with
        | zero => simp at hv; omega
        | succ m => exact ih.1 m v (by omega) (by simpa using hv)
      · rename_i hy
        exact ⟨fun m v hm => absurd hm (Nat.not_lt_zero _), fun v hv => by simp at hv; omega⟩
  have hle : lowT t h.h ≤ h.h.length := by
    have : ∀ (l : List Hold), lowT t l ≤ l.length := by
      intro l
      induction l with
      | nil => exact Nat.le_refl _
      | cons y l ih => rw [lowT]; split <;> simp <;> omega
    exact this _
  obtain ⟨k1, k2⟩ := key h.h
  obtain ⟨b1, b2⟩ := bsAt_spec (ok_pw o) t
  have hb := bsAt_le_h (·.t) h.h t
  rcases Nat.lt_trichotomy (lowT t h.h) (bsAt (h.h.map (·.t)) t) with h1 | h1 | h1
  · have hlt : lowT t h.h < (h.h.map (·.t)).length := by rw [List.length_map]; omega
    have := b1 _ _ h1 (List.getElem?_eq_getElem hlt)
    have := k2 _ (List.getElem?_eq_getElem hlt)
    omega
  · exact h1
  · have hlt : bsAt (h.h.map (·.t)) t < (h.h.map (·.t)).length := by rw [List.length_map]; omega
    have := k1 _ _ h1 (List.getElem?_eq_getElem hlt)
    have := b2 _ _ (Nat.le_refl _) (List.getElem?_eq_getElem hlt)
    omega
theorem metT_eq {h : House} (o : Ok h) (t : Int) : metT t h.h = bsMet (h.h.map (·.t)) t := by
  unfold metT bsMet
  rw [lowT_eq o, List.getElem?_map]
  cases h.h[bsAt (h.h.map (·.t)) t]? with
  | none => simp
  | some x => by_cases h : x.t = t <;> simp [h]
theorem heldR_eq (h : House) (t p : Int) (l : List Pay) : heldR h t p l = held h t p l := by
  unfold heldR held
  rw [checkR_eq]
  rcases check_01 h with e | e
  · have o := ok_of_check e
    rw [e, metT_eq o, lowT_eq o, hasB_eq o.cl, addR_eq o]
    simp only [ne_eq, not_true_eq_false, if_false]
  · rw [e]; rfl
end Go.Proofs.Ytpkbecaailhhmaa
