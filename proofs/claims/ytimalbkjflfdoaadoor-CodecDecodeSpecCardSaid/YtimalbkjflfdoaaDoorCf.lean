/-
  Texts that belong together, one behind the other; what each of them proves, and under which conditions, its own heading says.
-/
import Derived.Test.YtimalbkjflfdoaaDoorCe
set_option linter.unusedVariables false
set_option linter.unusedSimpArgs false
set_option maxRecDepth 100000
namespace Go.Proofs.YtimalbkjflfdoaaDoor
open Go.DL
mutual
def ints : Val → Prop
  | .mk _ n _ l _ => i64 n ∧ intsL l
def intsL : List Val → Prop
  | [] => True
  | v :: l => ints v ∧ intsL l
end
theorem intsL_iff {l : List Val} : intsL l ↔ ∀ x ∈ l, ints x := by
  induction l with
  | nil => simp [intsL]
  | cons v l ih => simp [intsL, ih]
theorem ints_rng {v : Val} (h : rng v) : ints v := by
  induction v using Val.ind with
  | h k n s l ks ih =>
    simp only [rng, rngL_iff] at h
    simp only [ints, intsL_iff]
    exact ⟨h.2.1, fun x hx => ih x hx (h.2.2.2.2.2.2 x hx)⟩
def good (d : Nat) (v : Val) : Prop := wf v = true ∧ ints v ∧ dep v + d ≤ 16
theorem enc_pos {v : Val} (h : wf v = true) : 1 ≤ (enc v).length := by
  obtain ⟨c, r, e, _⟩ := enc_first h
  rw [e]; simp
theorem txt_ge (s : List UInt8) : s.length + 2 ≤ (txt s).length := by
  obtain ⟨c, r, e, _⟩ := decDigits_cons s.length
  simp only [txt, e, List.length_append, List.length_cons]; omega
theorem encL_ge : ∀ {l : List Val}, (∀ x ∈ l, wf x = true) → l.length ≤ (encL l).length
  | [], _ => by simp
  | v :: l, h => by
    have h1 := enc_pos (h v List.mem_cons_self)
    have h2 := encL_ge fun x hx => h x (List.mem_cons_of_mem _ hx)
    simp only [encL, List.length_append, List.length_cons]; omega
theorem encL_mem : ∀ {l : List Val} {x : Val}, x ∈ l → (enc x).length ≤ (encL l).length
  | v :: l, x, h => by
    simp only [encL, List.length_append]
    rcases List.mem_cons.1 h with rfl | h
    · omega
    · have := encL_mem h; omega
theorem encD_mem : ∀ {ks : List (List UInt8)} {l : List Val} {x : Val}, x ∈ l → (enc x).length ≤ (encD ks l).length
  | ks, v :: l, x, h => by
    simp only [encD, List.length_append]
    rcases List.mem_cons.1 h with rfl | h
    · omega
    · have := encD_mem (ks := ks.tail) h; omega
theorem encD_key : ∀ {ks : List (List UInt8)} {l : List Val} {k : List UInt8}, ks.length = l.length → k ∈ ks → k.length ≤ (encD ks l).length
  | q :: ks, [], k, h, _ => by simp at h
  | q :: ks, v :: l, k, h, hk => by
    simp only [encD, List.length_append, List.headD_cons, List.tail_cons]
    rcases List.mem_cons.1 hk with rfl | hk
    · have := txt_ge k; omega
    · have := encD_key (l := l) (by simpa using h) hk; omega
theorem encD_ge : ∀ {ks : List (List UInt8)} {l : List Val}, l.length ≤ (encD ks l).length
  | _, [] => by simp
  | ks, v :: l => by
    have h1 := txt_ge (ks.headD [])
    have h2 := encD_ge (ks := ks.tail) (l := l)
    simp only [encD, List.length_append, List.length_cons]; omega
theorem rng_of {v : Val} (hw : wf v = true) (hi : ints v) (hl : (enc v).length ≤ 140737488355328) : rng v := by
  induction v using Val.ind with
  | h k n s l ks ih =>
    simp only [ints, intsL_iff] at hi
    have hk := wf_k hw
    simp only [Val.k] at hk
    simp only [rng, rngL_iff]
    rcases hk with rfl | rfl | rfl | rfl
    · obtain ⟨rfl, rfl, rfl⟩ := wf1 hw
      refine ⟨⟨by omega, by omega⟩, hi.1, by simp, by simp, by simp, by simp, by simp⟩
    · obtain ⟨rfl, rfl, rfl⟩ := wf2 hw
      simp (config := { decide := true }) only [enc, if_true, if_false] at hl
      have := txt_ge s
      refine ⟨⟨by omega, by omega⟩, hi.1, by omega, by simp, by simp, by simp, by simp⟩
    · obtain ⟨rfl, rfl, rfl, w⟩ := wf3 hw
      simp (config := { decide := true }) only [enc, if_true, if_false, List.length_cons, List.length_append, List.length_nil] at hl
      have := encL_ge w
      refine ⟨⟨by omega, by omega⟩, hi.1, by simp, by omega, by simp, by simp, fun x hx => ih x hx (w x hx) (hi.2 x hx) ?_⟩
      have := encL_mem hx; omega
    · obtain ⟨rfl, rfl, g, _, w⟩ := wf4 hw
      simp (config := { decide := true }) only [enc, if_true, if_false, List.length_cons, List.length_append, List.length_nil] at hl
      have := encD_ge (ks := ks) (l := l)
      refine ⟨⟨by omega, by omega⟩, hi.1, by simp, by omega, by omega, fun k hk => ?_, fun x hx => ih x hx (w x hx) (hi.2 x hx) ?_⟩
      · have := encD_key g hk; omega
      · have := encD_mem (ks := ks) hx; omega
theorem cnt_le {v : Val} (hw : wf v = true) : cnt v ≤ (enc v).length := by
  induction v using Val.ind with
  | h k n s l ks ih =>
    have hk := wf_k hw
    simp only [Val.k] at hk
    rcases hk with rfl | rfl | rfl | rfl
    · obtain ⟨rfl, rfl, rfl⟩ := wf1 hw
      simp [cnt, enc, cntL]
    · obtain ⟨rfl, rfl, rfl⟩ := wf2 hw
      have := txt_ge s
      simp (config := { decide := true }) only [enc, if_true, if_false, cnt, cntL, List.map_nil, List.sum_nil, List.length_nil]
      omega
    · obtain ⟨rfl, rfl, rfl, w⟩ := wf3 hw
      have key : ∀ l : List Val, (∀ x ∈ l, cnt x ≤ (enc x).length) → cntL l ≤ (encL l).length := by
        intro l
        induction l with
        | nil => simp [cntL]
        | cons v l ihl =>
          intro h
          have h1 := h v List.mem_cons_self
          have h2 := ihl fun x hx => h x (List.mem_cons_of_mem _ hx)
          simp only [cntL, encL, List.length_append]; omega
      have := key l fun x hx => ih x hx (w x hx)
      simp (config := { decide := true }) only [enc, if_true, if_false, cnt, List.map_nil, List.sum_nil, List.length_nil, List.length_cons, List.length_append]
      omega
    · obtain ⟨rfl, rfl, g, _, w⟩ := wf4 hw
      have key : ∀ (l : List Val) (ks : List (List UInt8)), ks.length = l.length → (∀ x ∈ l, cnt x ≤ (enc x).length) → ks.length + keyS ks + cntL l ≤ (encD ks l).length := by
        intro l
        induction l with
        | nil => intro ks hk _; cases ks with
          | nil => simp [cntL, keyS]
          | cons _ _ => simp at hk
        | cons v l ihl =>
          intro ks hk h
          cases ks with
          | nil => simp at hk
          | cons k ks =>
            have h1 := h v List.mem_cons_self
            have h2 := ihl ks (by simpa using hk) fun x hx => h x (List.mem_cons_of_mem _ hx)
            have h3 := txt_ge k
            simp only [cntL, encD, List.length_append, List.headD_cons, List.tail_cons, keyS, List.map_cons, List.sum_cons, List.length_cons] at *
            omega
      have := key l ks g fun x hx => ih x hx (w x hx)
      simp only [keyS] at this
      simp (config := { decide := true }) only [enc, if_true, if_false, cnt, List.length_nil, List.length_cons, List.length_append]
      omega
theorem hgt_dep {v : Val} (hw : wf v = true) : hgt v ≤ dep v + 1 := by
  induction v using Val.ind with
  | h k n s l ks ih =>
    have hk := wf_k hw
    simp only [Val.k] at hk
    have sub : (∀ x ∈ l, wf x = true) → hgtL l ≤ depL l + 1 := fun w => hgtL_le.2 fun x hx => by
      have h1 := ih x hx (w x hx)
      have h2 := depL_le.1 (Nat.le_refl (depL l)) x hx
      omega
    rcases hk with rfl | rfl | rfl | rfl
    · obtain ⟨rfl, rfl, rfl⟩ := wf1 hw; simp [hgt, hgtL]
    · obtain ⟨rfl, rfl, rfl⟩ := wf2 hw; simp [hgt, hgtL]
    · obtain ⟨rfl, rfl, rfl, w⟩ := wf3 hw
      have := sub w
      simp (config := { decide := true }) only [hgt, dep, if_false]; omega
    · obtain ⟨rfl, rfl, g, _, w⟩ := wf4 hw
      have := sub w
      simp (config := { decide := true }) only [hgt, dep, if_false]; omega
theorem good_ok {d : Nat} {v : Val} (h : good d v) (hl : (enc v).length ≤ 50000000000) : Ok v := by
  obtain ⟨h1, h2, h3⟩ := h
  have := hgt_dep h1
  have := cnt_le h1
  exact ⟨rng_of h1 h2 (by omega), by omega, by omega⟩
theorem encL_pre : ∀ {L l : List Val} {r a : List UInt8}, (∀ x ∈ L, wf x = true ∧ rng x) → (∀ x ∈ l, wf x = true ∧ rng x) → encL L ++ r = encL l ++ 101 :: a → ∃ l2, l = L ++ l2 ∧ r = encL l2 ++ 101 :: a
  | [], l, r, a, _, _, h => ⟨l, rfl, by simpa [encL] using h⟩
  | x :: L, [], r, a, h1, _, h => by
    simp only [encL, List.nil_append, List.append_assoc] at h
    exact (first_ne (h1 x List.mem_cons_self).1 h).elim
  | x :: L, y :: l, r, a, h1, h2, h => by
    simp only [encL, List.append_assoc] at h
    obtain ⟨e1, h3⟩ := enc_split (h1 x List.mem_cons_self).2 (h2 y List.mem_cons_self).2 (h1 x List.mem_cons_self).1 (h2 y List.mem_cons_self).1 h
    subst e1
    obtain ⟨l2, rfl, h4⟩ := encL_pre (fun p hp => h1 p (List.mem_cons_of_mem _ hp)) (fun p hp => h2 p (List.mem_cons_of_mem _ hp)) h3
    exact ⟨l2, rfl, h4⟩
theorem encD_pre : ∀ {K ks : List (List UInt8)} {L l : List Val} {r a : List UInt8}, (∀ x ∈ L, wf x = true ∧ rng x) → (∀ x ∈ l, wf x = true ∧ rng x) → K.length = L.length → ks.length = l.length → (∀ k ∈ K, k.length ≤ 140737488355328) → (∀ k ∈ ks, k.length ≤ 140737488355328) →
    encD K L ++ r = encD ks l ++ 101 :: a → ∃ ks2 l2, ks = K ++ ks2 ∧ l = L ++ l2 ∧ r = encD ks2 l2 ++ 101 :: a
  | [], ks, [], l, r, a, _, _, _, _, _, _, h => ⟨ks, l, rfl, rfl, by simpa [encD] using h⟩
  | _ :: _, _, [], _, _, _, _, _, h, _, _, _, _ => by simp at h
  | [], _, _ :: _, _, _, _, _, _, h, _, _, _, _ => by simp at h
  | k :: K, ks, x :: L, [], r, a, h1, _, _, _, _, _, h => by
    simp only [encD, List.nil_append, List.append_assoc] at h
    exact (txt_ne h).elim
  | _, [], _, _ :: _, _, _, _, _, _, h, _, _, _ => by simp at h
  | k :: K, j :: ks, x :: L, y :: l, r, a, h1, h2, h3, h4, h5, h6, h => by
    simp only [encD, List.append_assoc, List.headD_cons, List.tail_cons] at h
    obtain ⟨e0, h7⟩ := txt_split (h5 k List.mem_cons_self) (h6 j List.mem_cons_self) h
    obtain ⟨e1, h8⟩ := enc_split (h1 x List.mem_cons_self).2 (h2 y List.mem_cons_self).2 (h1 x List.mem_cons_self).1 (h2 y List.mem_cons_self).1 h7
    subst e0; subst e1
    obtain ⟨ks2, l2, rfl, rfl, h9⟩ := encD_pre (fun p hp => h1 p (List.mem_cons_of_mem _ hp)) (fun p hp => h2 p (List.mem_cons_of_mem _ hp)) (by simpa using h3) (by simpa using h4) (fun q hq => h5 q (List.mem_cons_of_mem _ hq)) (fun q hq => h6 q (List.mem_cons_of_mem _ hq)) h8
    exact ⟨ks2, l2, rfl, rfl, h9⟩
theorem incr_append_one : ∀ {l : List (List UInt8)} {x : List UInt8}, incr l = true → (∀ y, l.getLast? = some y → Op.bytesLess y x = true) → incr (l ++ [x]) = true
  | [], x, _, _ => rfl
  | [a], x, _, h => by simp [incr, h a rfl]
  | a :: b :: l, x, h1, h2 => by
    simp only [incr, Bool.and_eq_true, List.cons_append] at h1 ⊢
    exact ⟨h1.1, incr_append_one (l := b :: l) h1.2 fun y hy => h2 y (by rw [List.getLast?_cons_cons]; exact hy)⟩
theorem incr_last : ∀ {l : List (List UInt8)} {x y : List UInt8} {r : List (List UInt8)}, incr (l ++ x :: r) = true → l.getLast? = some y → Op.bytesLess y x = true
  | [], x, y, r, _, h => by simp at h
  | [a], x, y, r, h1, h => by
    simp at h; subst h
    simp only [List.cons_append, List.nil_append, incr, Bool.and_eq_true] at h1
    exact h1.1
  | a :: b :: l, x, y, r, h1, h => by
    simp only [List.cons_append, incr, Bool.and_eq_true] at h1
    exact incr_last (l := b :: l) h1.2 (by rw [List.getLast?_cons_cons] at h; exact h)
end Go.Proofs.YtimalbkjflfdoaaDoor

set_option maxRecDepth 100000
namespace Go.Proofs.YtimalbkjflfdoaaDoor
open Go.DL
theorem indexB_eq {R : List UInt8} {c : UInt8} {C : Int} (hC : C = ((c.toNat : Nat) : Int)) (hR : R.length ≤ 140737488355328) : g_slices_Index_Lbyte_byte R C = some (if R.idxOf c < R.length then ((R.idxOf c : Nat) : Int) else -1) := by
  refine WP.eq ?_
  unfold g_slices_Index_Lbyte_byte
  have at_ : ∀ {l : List UInt8} {i : Nat}, (∀ x ∈ l.take i, x ≠ c) → l[i]? = some c → l.idxOf c = i := by
    intro l
    induction l with
    | nil => intro i _ h; simp at h
    | cons a l ih =>
      intro i h1 h2
      cases i with
      | zero => simp at h2; subst h2; simp
      | succ i =>
        have hne : a ≠ c := h1 a (by simp)
        rw [List.idxOf_cons, beq_eq_false_iff_ne.2 hne, ih (i := i) (fun x hx => h1 x (by simp [hx])) (by simpa using h2)]; rfl
  have none_ : ∀ {l : List UInt8}, (∀ x ∈ l, x ≠ c) → l.idxOf c = l.length := by
    intro l
    induction l with
    | nil => intro _; rfl
    | cons a l ih =>
      intro h1
      have hne : a ≠ c := h1 a (by simp)
      rw [List.idxOf_cons, beq_eq_false_iff_ne.2 hne, ih (fun x hx => h1 x (by simp [hx]))]; rfl
  refine WP.loop (fun i => i ≤ R.length ∧ ∀ x ∈ R.take i, x ≠ c) (fun i => R.length - i) ?_ ⟨by omega, by simp⟩
  rintro i ⟨g1, g2⟩
  simp only [g_slices_Index_Lbyte_byte_l2]
  refine WP.iteD (fun hi => ?_) (fun hi => WP.up (WP.ret ?_))
  · refine WP.gn (by omega) fun x hx => WP.iteE (fun e => WP.up (WP.ret ?_)) (fun e => WP.ckI (by omega) (WP.ret ⟨⟨by omega, ?_⟩, by show R.length - (i + 1) < R.length - i; omega⟩))
    · have : x = c := UInt8.toNat_inj.1 (by omega)
      subst this
      show ((i : Nat) : Int) = _
      rw [at_ g2 hx, if_pos (by omega)]
    · intro y hy
      rw [List.take_add_one, hx] at hy
      rcases List.mem_append.1 hy with hy | hy
      · exact g2 y hy
      · simp at hy; subst hy; exact fun h => e (by rw [h, hC])
  · show (-1 : Int) = _
    have e : i = R.length := by omega
    rw [e, List.take_length] at g2
    rw [none_ g2, if_neg (by omega)]
theorem idx_split {R : List UInt8} {c : UInt8} (h : R.idxOf c < R.length) : R = R.take (R.idxOf c) ++ c :: R.drop (R.idxOf c + 1) := by
  have h1 : R[R.idxOf c]'h = c := List.getElem_idxOf h
  conv => lhs; rw [← List.take_append_drop (R.idxOf c) R, List.drop_eq_getElem_cons h, h1]
theorem onP_some' {α ρ : Type} {x : Option α} {v : α} {f : α → Option ρ} {z : Option ρ} (h : x = some v) : onP x f z = f v := by rw [h]; rfl
theorem onP_none' {α ρ : Type} {x : Option α} {f : α → Option ρ} {z : Option ρ} (h : x = none) : onP x f z = z := by rw [h]; rfl
theorem WP.num {ρ : Type} {Q : ρ → Prop} {R : List UInt8} {c : UInt8} {C : Int} (hC : C = ((c.toNat : Nat) : Int)) (hc : 58 ≤ c.toNat) (hR : R.length ≤ 70368744177664) {z1 z2 : Option ρ} {K : List UInt8 → List UInt8 → Int → Option ρ} {KZ : List UInt8 → List UInt8 → Option ρ}
    (hgood : ∀ n rest, i64 n → R = Lib.itoa n ++ c :: rest → WP (K (Lib.itoa n) rest n) Q)
    (hbad : (∀ n rest, i64 n → R ≠ Lib.itoa n ++ c :: rest) → WP z1 Q ∧ WP z2 Q ∧ (∀ s rest, WP (KZ s rest) Q) ∧ (∀ s rest n, i64 n → ¬ Lib.itoa n = s → WP (K s rest n) Q)) :
    WP (bd (g_slices_Index_Lbyte_byte R C) fun i => if (decide (i < 0)) = true then z1 else if (decide (i > 20)) = true then z2 else sb R none (some i) fun s => ckI (i + 1) <| sb R (some (i + 1)) none fun rest => ck (s.length ≤ 140737488355328) <| onP (parseO s) (fun n => K s rest n) (KZ s rest)) Q := by
  refine WP.bd (indexB_eq hC (by omega)) ?_
  by_cases hex : ∃ n rest, i64 n ∧ R = Lib.itoa n ++ c :: rest
  · obtain ⟨n, rest, hn, hr⟩ := hex
    have hno : c ∉ Lib.itoa n := fun hh => by have := itoa_mem hh; omega
    have hlen := itoa_len20 hn
    have hi : R.idxOf c = (Lib.itoa n).length := by rw [hr]; exact idxOf_split hno
    have hlt : R.idxOf c < R.length := by rw [hi, hr]; simp
    rw [if_pos hlt, hi]
    refine WP.iteD (fun h => by omega) (fun _ => WP.iteD (fun h => by omega) (fun _ => ?_))
    have hRl : (Lib.itoa n).length < R.length := by rw [← hi]; exact hlt
    refine WP.sb ⟨by simp, by simp, by simp; omega⟩ (WP.ckI (by omega) (WP.sb ⟨by simp; omega, by simp; omega, by simp⟩ ?_))
    have e1 : subList R none (some (((Lib.itoa n).length : Nat) : Int)) = Lib.itoa n := by
      show R.take _ = _
      rw [Int.toNat_natCast, hr, List.take_left]
    have e2 : subList R (some ((((Lib.itoa n).length : Nat) : Int) + 1)) none = rest := by
      show R.drop _ = _
      rw [show ((((Lib.itoa n).length : Nat) : Int) + 1).toNat = (Lib.itoa n).length + 1 by omega, hr]
      rw [show Lib.itoa n ++ c :: rest = (Lib.itoa n ++ [c]) ++ rest by simp]
      rw [show (Lib.itoa n).length + 1 = (Lib.itoa n ++ [c]).length by simp, List.drop_left]
    rw [e1, e2]
    refine WP.ck (by omega) ?_
    rw [onP_some' (parse_itoa hn)]
    exact hgood n rest hn hr
  · obtain ⟨b1, b2, b3, b4⟩ := hbad fun n rest hn hr => hex ⟨n, rest, hn, hr⟩
    by_cases hlt : R.idxOf c < R.length
    · rw [if_pos hlt]
      refine WP.iteD (fun h => b1) (fun _ => WP.iteD (fun h => b2) (fun _ => ?_))
      refine WP.sb ⟨by simp, by simp, by simp; omega⟩ (WP.ckI (by omega) (WP.sb ⟨by simp; omega, by simp; omega, by simp⟩ ?_))
      have e1 : subList R none (some ((R.idxOf c : Nat) : Int)) = R.take (R.idxOf c) := by show R.take _ = _; rw [Int.toNat_natCast]
      rw [e1]
      refine WP.ck (by simp; omega) ?_
      cases hp : parseO (R.take (R.idxOf c)) with
      | none => rw [onP_none' rfl]; exact b3 _ _
      | some n =>
        rw [onP_some' rfl]
        refine b4 _ _ n (parse_i64 hp) fun he => hex ⟨n, R.drop (R.idxOf c + 1), parse_i64 hp, ?_⟩
        rw [he]; exact idx_split hlt
    · rw [if_neg hlt]
      exact WP.iteD (fun h => b1) (fun h => by omega)
def VRes (d : Nat) (r : List UInt8) : (Val × Reader) ⊕ Unit → Prop
  | .inl y => good d y.1 ∧ r = enc y.1 ++ y.2.rest
  | .inr _ => ∀ v a, good d v → r ≠ enc v ++ a
def body (kd : Int) (ks : List (List UInt8)) (l : List Val) : List UInt8 := if kd = 4 then encD ks l else encL l
theorem enc_body {kd : Int} (hk : kd = 3 ∨ kd = 4) (ks : List (List UInt8)) (l : List Val) : enc (.mk kd 0 [] l ks) = (if kd = 4 then 100 else 108) :: (body kd ks l ++ [101]) := by
  rcases hk with rfl | rfl <;> simp [enc, body]
def KOk (kd : Int) (ks : List (List UInt8)) (l : List Val) : Prop := (kd = 4 → ks.length = l.length ∧ incr ks = true) ∧ (kd = 3 → ks = [])
theorem wf_body {kd : Int} (hk : kd = 3 ∨ kd = 4) {ks : List (List UInt8)} {l : List Val} (h : KOk kd ks l) (hw : ∀ x ∈ l, wf x = true) : wf (.mk kd 0 [] l ks) = true := by
  have := wfL_iff.2 hw
  rcases hk with rfl | rfl
  · have := h.2 rfl; simp_all [wf]
  · have := h.1 rfl; simp_all [wf]
theorem good_list {kd : Int} (hk : kd = 3 ∨ kd = 4) {ks : List (List UInt8)} {l : List Val} {d : Nat} (hd : d < 16) (h : KOk kd ks l) (hg : ∀ x ∈ l, good (d + 1) x) : good d (.mk kd 0 [] l ks) := by
  refine ⟨wf_body hk h fun x hx => (hg x hx).1, ?_, ?_⟩
  · simp only [ints, intsL_iff]; exact ⟨⟨by omega, by omega⟩, fun x hx => (hg x hx).2.1⟩
  · have : depL l ≤ 15 - d := depL_le.2 fun x hx => by have := (hg x hx).2.2; omega
    have hn : ¬ (kd = 1 ∨ kd = 2) := by omega
    simp only [dep, hn, if_false]; omega
theorem list_good {kd n : Int} {s : List UInt8} {ks : List (List UInt8)} {l : List Val} {d : Nat} (hk : kd = 3 ∨ kd = 4) (h : good d (.mk kd n s l ks)) : n = 0 ∧ s = [] ∧ KOk kd ks l ∧ d < 16 ∧ ∀ x ∈ l, good (d + 1) x := by
  obtain ⟨h1, h2, h3⟩ := h
  simp only [ints, intsL_iff] at h2
  have hn : ¬ (kd = 1 ∨ kd = 2) := by omega
  simp only [dep, hn, if_false] at h3
  have hd : ∀ x ∈ l, dep x + (d + 1) ≤ 16 := fun x hx => by have := depL_le.1 (Nat.le_refl (depL l)) x hx; omega
  rcases hk with rfl | rfl
  · obtain ⟨rfl, rfl, rfl, w⟩ := wf3 h1
    exact ⟨rfl, rfl, ⟨fun h => by omega, fun _ => rfl⟩, by omega, fun x hx => ⟨w x hx, h2.2 x hx, hd x hx⟩⟩
  · obtain ⟨rfl, rfl, g, gi, w⟩ := wf4 h1
    exact ⟨rfl, rfl, ⟨fun _ => ⟨g, gi⟩, fun h => by omega⟩, by omega, fun x hx => ⟨w x hx, h2.2 x hx, hd x hx⟩⟩
theorem body_pre {kd : Int} (hk : kd = 3 ∨ kd = 4) {d : Nat} {K ks : List (List UInt8)} {L l : List Val} {r a r0 : List UInt8} (hr0 : r0.length ≤ 140737488355328) (hL : ∀ x ∈ L, good (d + 1) x) (hl : ∀ x ∈ l, good (d + 1) x) (hK : KOk kd K L) (hks : KOk kd ks l)
    (h1 : r0 = body kd K L ++ r) (h2 : r0 = body kd ks l ++ 101 :: a) : ∃ ks2 l2, ks = K ++ ks2 ∧ l = L ++ l2 ∧ r = body kd ks2 l2 ++ 101 :: a := by
  have hb1 : (body kd K L).length ≤ r0.length := by rw [h1]; simp
  have hb2 : (body kd ks l).length ≤ r0.length := by rw [h2]; simp
  rcases hk with rfl | rfl
  · have hK' := hK.2 rfl
    have hks' := hks.2 rfl
    subst hK'; subst hks'
    simp only [body, show ¬ (3 : Int) = 4 by decide, if_false] at *
    obtain ⟨l2, e1, e2⟩ := encL_pre (fun x hx => ⟨(hL x hx).1, rng_of (hL x hx).1 (hL x hx).2.1 (by have := encL_mem hx; omega)⟩) (fun x hx => ⟨(hl x hx).1, rng_of (hl x hx).1 (hl x hx).2.1 (by have := encL_mem hx; omega)⟩) (h1.symm.trans h2)
    exact ⟨[], l2, rfl, e1, e2⟩
  · obtain ⟨g1, _⟩ := hK.1 rfl
    obtain ⟨g2, _⟩ := hks.1 rfl
    simp only [body, if_true] at *
    exact encD_pre (fun x hx => ⟨(hL x hx).1, rng_of (hL x hx).1 (hL x hx).2.1 (by have := encD_mem (ks := K) hx; omega)⟩) (fun x hx => ⟨(hl x hx).1, rng_of (hl x hx).1 (hl x hx).2.1 (by have := encD_mem (ks := ks) hx; omega)⟩) g1 g2
      (fun q hq => by have := encD_key g1 hq; omega) (fun q hq => by have := encD_key g2 hq; omega) (h1.symm.trans h2)
theorem body_snoc3 (L : List Val) (x : Val) : body 3 [] (L ++ [x]) = body 3 [] L ++ enc x := by simp [body, encL_append, encL]
theorem body_snoc4 {K : List (List UInt8)} {L : List Val} (h : K.length = L.length) (k : List UInt8) (x : Val) : body 4 (K ++ [k]) (L ++ [x]) = body 4 K L ++ (txt k ++ enc x) := by
  simp only [body, if_true, encD_append]
  rw [encD_keys K [k] L (by omega), ← h, List.drop_left]
  simp [encD]
end Go.Proofs.YtimalbkjflfdoaaDoor

set_option maxRecDepth 100000
set_option maxHeartbeats 1000000
namespace Go.Proofs.YtimalbkjflfdoaaDoor
open Go.DL
theorem iteNb_neq {α ρ : Type} {Q : ρ → Prop} [BEq α] [LawfulBEq α] {x y : α} {i : Decidable ((!(x == y)) = true)} {a b : Option ρ} (h1 : ¬ x = y → WP a Q) (h2 : x = y → WP b Q) : WP (@ite _ ((!(x == y)) = true) i a b) Q := by
  by_cases h : x = y
  · rw [if_neg (by simp [h])]; exact h2 h
  · rw [if_pos (by simp [h])]; exact h1 h
theorem list_loop {rc : Reader → Int → Option ((Val × Reader) ⊕ Unit)} {kd : Int} (hk : kd = 3 ∨ kd = 4) {d : Nat} (hd : d < 16) {r0 : List UInt8} (hr : r0.length ≤ 1099511627776) (hrc : ∀ q : List UInt8, q.length ≤ 1099511627776 → WP (rc ⟨q⟩ ((d : Int) + 1)) (VRes (d + 1) q)) :
    WP (loopO (g__codec_reader_value_s_l5 kd (d : Int) rc) (r0, ([] : List Val), ([] : List (List UInt8)))) (VRes d ((if kd = 4 then 100 else 108) :: r0)) := by
  -- what is read fits, or nothing fits
  have bad : ∀ (K : List (List UInt8)) (L : List Val) (r : List UInt8), r0 = body kd K L ++ r → (∀ x ∈ L, good (d + 1) x) → KOk kd K L →
      (∀ ks2 l2 a, (∀ x ∈ l2, good (d + 1) x) → KOk kd (K ++ ks2) (L ++ l2) → r ≠ body kd ks2 l2 ++ 101 :: a) → VRes d ((if kd = 4 then 100 else 108) :: r0) (.inr ()) := by
    intro K L r h1 hL hK hno v a hv he
    obtain ⟨c, q, e1, c1⟩ := enc_first hv.1
    have hk' : v.k = kd := by
      rw [e1, List.cons_append, List.cons.injEq] at he
      obtain ⟨he, _⟩ := he
      rcases hk with rfl | rfl <;> simp at he <;> subst he <;> rcases c1 with ⟨_, h⟩ | ⟨_, h, h2⟩ | ⟨h, h2⟩ | ⟨h, h2⟩
      · exact absurd h (by decide)
      · simp at h2
      · exact h
      · exact absurd h2 (by decide)
      · exact absurd h (by decide)
      · simp at h2
      · exact absurd h2 (by decide)
      · exact h
    cases v with
    | mk k n s l ks =>
      simp only [Val.k] at hk'
      subst hk'
      obtain ⟨rfl, rfl, g1, _, g2⟩ := list_good hk hv
      rw [enc_body hk, List.cons_append, List.cons.injEq] at he
      have h2 : r0 = body k ks l ++ 101 :: a := by simpa using he.2
      obtain ⟨ks2, l2, rfl, rfl, e3⟩ := body_pre hk (by omega) hL g2 hK g1 h1 h2
      exact hno ks2 l2 a (fun x hx => g2 x (List.mem_append_right _ hx)) g1 e3
  refine WP.loop (fun (p : List UInt8 × List Val × List (List UInt8)) => r0 = body kd p.2.2 p.2.1 ++ p.1 ∧ (∀ x ∈ p.2.1, good (d + 1) x) ∧ KOk kd p.2.2 p.2.1) (fun p => p.1.length) ?_ ⟨by simp [body, encL, encD], by simp, by simp [incr, KOk]⟩
  rintro ⟨r, L, K⟩ ⟨h1, hL, hK⟩
  simp only at h1 hL hK
  have hrl : r.length ≤ r0.length := by rw [h1]; simp
  have hLl : L.length ≤ r0.length := by
    rw [h1, List.length_append]
    have : L.length ≤ (body kd K L).length := by
      unfold body; split
      · exact encD_ge
      · exact encL_ge fun x hx => (hL x hx).1
    omega
  have hKl : K.length ≤ r0.length := by
    rcases hk with rfl | rfl
    · rw [hK.2 rfl]; simp
    · rw [(hK.1 rfl).1]; exact hLl
  simp only [g__codec_reader_value_s_l5]
  refine WP.iteE (fun h0 => WP.up (WP.ret ?_)) (fun h0 => ?_)
  · refine bad K L r h1 hL hK fun ks2 l2 a _ _ e => ?_
    have : r.length = 0 := by omega
    rw [e] at this; simp at this
  cases r with
  | nil => simp at h0
  | cons x r =>
    refine WP.gn (by simp) fun x' hx' => ?_
    simp at hx'; subst hx'
    refine WP.iteE (fun h101 => ?_) (fun h101 => ?_)
    · have hx : x = 101 := UInt8.toNat_inj.1 (show x.toNat = 101 by omega)
      subst hx
      refine WP.sb ⟨by simp, by simp only [Option.getD_some, Option.getD_none, List.length_cons]; omega, by simp⟩ (WP.up (WP.ret ?_))
      show VRes d _ (.inl _)
      refine ⟨good_list hk hd hK hL, ?_⟩
      show (if kd = 4 then 100 else 108) :: r0 = enc (.mk kd 0 [] L K) ++ r
      rw [enc_body hk, h1]; simp
    · have hx : ¬ x = 101 := fun e => h101 (by subst e; rfl)
      -- one more element behind K2
      have elem : ∀ (K2 : List (List UInt8)) (q : List UInt8) (pre : List UInt8), q.length < (x :: r).length → x :: r = pre ++ q → (∀ e : Val, body kd K2 (L ++ [e]) = body kd K L ++ (pre ++ enc e)) → (∀ e : Val, KOk kd K2 (L ++ [e]) ) →
          (∀ ks2 l2 a, (∀ x ∈ l2, good (d + 1) x) → KOk kd (K ++ ks2) (L ++ l2) → x :: r = body kd ks2 l2 ++ 101 :: a → ∃ e a', good (d + 1) e ∧ q = enc e ++ a') →
          WP (g__codec_reader_value_s_j6 (d : Int) rc L kd q K2) (Rnd (fun (p : List UInt8 × List Val × List (List UInt8)) => r0 = body kd p.2.2 p.2.1 ++ p.1 ∧ (∀ x ∈ p.2.1, good (d + 1) x) ∧ KOk kd p.2.2 p.2.1) (fun p => p.1.length) (x :: r).length (VRes d ((if kd = 4 then 100 else 108) :: r0))) := by
        intro K2 q pre hql hpre hbody hKOk hno
        unfold g__codec_reader_value_s_j6
        have hq2 : (x :: r).length ≤ r0.length := hrl
        obtain ⟨y, hy, hV⟩ := hrc q (by omega)
        refine WP.ckI (by omega) ?_
        cases y with
        | inl y =>
          obtain ⟨e, q'⟩ := y
          obtain ⟨he, hqe⟩ := hV
          simp only at he hqe
          refine WP.bdP hy (WP.ck (by simp; omega) (WP.ret ⟨⟨?_, ?_, ?_⟩, ?_⟩))
          · simp only
            rw [hbody e, h1, hpre, hqe]; simp
          · simp only
            intro z hz
            rcases List.mem_append.1 hz with hz | hz
            · exact hL z hz
            · simp at hz; subst hz; exact he
          · exact hKOk e
          · simp only
            have : q'.rest.length ≤ q.length := by rw [hqe]; simp
            omega
        | inr u =>
          refine WP.bdPz hy (WP.up (WP.ret ?_))
          refine bad K L (x :: r) h1 hL hK fun ks2 l2 a g1 g2 e => ?_
          obtain ⟨ev, a', hev, hq'⟩ := hno ks2 l2 a g1 g2 e
          exact hV ev a' hev hq'
      rcases hk with rfl | rfl
      · have hK0 : K = [] := hK.2 rfl
        subst hK0
        refine WP.iteE (fun h => absurd h (by decide)) (fun _ => ?_)
        have hrx : (x :: r).length ≤ r0.length := hrl
        unfold g__codec_reader_value_s_j6
        obtain ⟨y, hy, hV⟩ := hrc (x :: r) (by omega)
        refine WP.ckI (by omega) ?_
        cases y with
        | inl y =>
          obtain ⟨e, q'⟩ := y
          obtain ⟨he, hqe⟩ := hV
          simp only at he hqe
          have hpos := enc_pos he.1
          refine WP.bdP hy (WP.ck (by simp; omega) (WP.ret ⟨⟨?_, ?_, ?_⟩, ?_⟩))
          · simp only
            rw [body_snoc3, h1, hqe]; simp
          · simp only
            intro z hz
            rcases List.mem_append.1 hz with hz | hz
            · exact hL z hz
            · simp at hz; subst hz; exact he
          · exact ⟨fun h => by omega, fun _ => rfl⟩
          · simp only
            rw [hqe]; simp; omega
        | inr u =>
          refine WP.bdPz hy (WP.up (WP.ret ?_))
          refine bad [] L (x :: r) h1 hL hK fun ks2 l2 a g1 g2 e => ?_
          cases l2 with
          | nil =>
            simp [body, encL] at e
            exact hx e.1
          | cons v l2 =>
            simp only [body, show ¬ (3 : Int) = 4 by decide, if_false, encL, List.append_assoc] at e
            exact hV v _ (g1 v List.mem_cons_self) e
      · obtain ⟨hKL, hKi⟩ := hK.1 rfl
        refine WP.iteE (fun _ => ?_) (fun h => absurd rfl h)
        have hrx : (x :: r).length ≤ r0.length := hrl
        -- a dictionary's rest begins with a key
        have key : ∀ ks2 l2 a, (∀ x ∈ l2, good (d + 1) x) → KOk 4 (K ++ ks2) (L ++ l2) → x :: r = body 4 ks2 l2 ++ 101 :: a → ∃ k v a', good (d + 1) v ∧ incr (K ++ [k]) = true ∧ x :: r = txt k ++ (enc v ++ a') := by
          intro ks2 l2 a g1 g2 e
          cases l2 with
          | nil => simp [body, encD] at e; exact absurd e.1 hx
          | cons v l2 =>
            cases ks2 with
            | nil =>
              have := (g2.1 rfl).1
              simp at this; omega
            | cons k ks2 =>
              refine ⟨k, v, encD ks2 l2 ++ 101 :: a, g1 v List.mem_cons_self, ?_, by simpa [body, encD] using e⟩
              refine incr_append_one hKi fun y hy => incr_last (g2.1 rfl).2 hy
        refine WP.num (c := 58) (by rfl) (by decide) (by omega) ?_ ?_
        · intro n rest hn he
          unfold g__codec_reader_value_s_j7
          refine WP.ckI ⟨hn.1, hn.2⟩ (iteNb_neq (fun h => absurd rfl h) fun _ => ?_)
          have hrl2 : rest.length < (x :: r).length := by rw [he]; simp; omega
          refine WP.iteD (fun hneg => WP.up (WP.ret ?_)) (fun hneg => ?_)
          · refine bad K L (x :: r) h1 hL hK fun ks2 l2 a g1 g2 e => ?_
            obtain ⟨k, v, a', _, _, e2⟩ := key ks2 l2 a g1 g2 e
            rw [e2, txt_itoa] at he
            have hkl : k.length ≤ (x :: r).length := by have := txt_ge k; rw [e2]; simp; omega
            obtain ⟨h3, _⟩ := itoa_split (c := 58) (m := ((k.length : Nat) : Int)) (by decide) ⟨by omega, by omega⟩ hn (by simpa using he)
            omega
          refine WP.iteD (fun hlong => WP.up (WP.ret ?_)) (fun hlong => ?_)
          · refine bad K L (x :: r) h1 hL hK fun ks2 l2 a g1 g2 e => ?_
            obtain ⟨k, v, a', _, _, e2⟩ := key ks2 l2 a g1 g2 e
            rw [e2, txt_itoa] at he
            have hkl : k.length ≤ (x :: r).length := by have := txt_ge k; rw [e2]; simp; omega
            obtain ⟨h3, h4⟩ := itoa_split (c := 58) (m := ((k.length : Nat) : Int)) (by decide) ⟨by omega, by omega⟩ hn (by simpa using he)
            rw [← h4] at hlong
            simp at hlong; omega
          refine WP.sb ⟨by simp, by simp; omega, by simp; omega⟩ (WP.sb ⟨by simp; omega, by simp; omega, by simp⟩ ?_)
          have e1 : subList rest none (some n) = rest.take n.toNat := rfl
          have e2 : subList rest (some n) none = rest.drop n.toNat := rfl
          rw [e1, e2]
          have hkl : (rest.take n.toNat).length = n.toNat := by simp; omega
          have hpre : x :: r = txt (rest.take n.toNat) ++ rest.drop n.toNat := by
            rw [he, txt_itoa, hkl, show ((n.toNat : Nat) : Int) = n by omega]
            simp
          have uniq : ∀ k b, x :: r = txt k ++ b → k = rest.take n.toNat ∧ b = rest.drop n.toNat := by
            intro k b hb
            have : k.length ≤ (x :: r).length := by have := txt_ge k; rw [hb]; simp; omega
            exact txt_split (by omega) (by omega) (hb.symm.trans hpre)
          have hfin : (∀ y, K.getLast? = some y → Op.bytesLess y (rest.take n.toNat) = true) → WP (g__codec_reader_value_s_j9 K (rest.take n.toNat) (d : Int) rc L 4 (rest.drop n.toNat)) (Rnd (fun (p : List UInt8 × List Val × List (List UInt8)) => r0 = body 4 p.2.2 p.2.1 ++ p.1 ∧ (∀ x ∈ p.2.1, good (d + 1) x) ∧ KOk 4 p.2.2 p.2.1) (fun p => p.1.length) (x :: r).length (VRes d ((if (4 : Int) = 4 then 100 else 108) :: r0))) := by
            intro hless
            unfold g__codec_reader_value_s_j9
            refine WP.ck (by simp; omega) (elem (K ++ [rest.take n.toNat]) (rest.drop n.toNat) (txt (rest.take n.toNat)) (by rw [List.length_drop]; omega) hpre (fun e => body_snoc4 hKL _ _) (fun e => ⟨fun _ => ⟨by simp [hKL], incr_append_one hKi hless⟩, fun h => by omega⟩) ?_)
            intro ks2 l2 a g1 g2 e
            obtain ⟨k, v, a', gv, _, e3⟩ := key ks2 l2 a g1 g2 e
            obtain ⟨_, e4⟩ := uniq k _ e3
            exact ⟨v, a', gv, e4.symm⟩
          refine WP.iteD (fun hpos => ?_) (fun hpos => hfin fun y hy => ?_)
          · refine WP.ckI (by omega) (WP.gt (by omega) fun y hy => ?_)
            have hy' : K.getLast? = some y := by
              rw [List.getLast?_eq_getElem?, ← hy]; congr 1; omega
            refine WP.iteNb (WP.iteB (fun hl => hfin fun z hz => ?_) (fun hl => WP.up (WP.ret ?_)))
            · rw [hy'] at hz; cases hz; exact hl
            · refine bad K L (x :: r) h1 hL hK fun ks2 l2 a g1 g2 e => ?_
              obtain ⟨k, v, a', gv, gi, e3⟩ := key ks2 l2 a g1 g2 e
              obtain ⟨e4, _⟩ := uniq k _ e3
              rw [e4] at gi
              have := incr_last (r := []) gi hy'
              rw [this] at hl; cases hl
          · have : K = [] := List.eq_nil_of_length_eq_zero (by omega)
            subst this; simp at hy
        · intro hno
          have hb : VRes d ((if (4 : Int) = 4 then 100 else 108) :: r0) (.inr ()) := by
            refine bad K L (x :: r) h1 hL hK fun ks2 l2 a g1 g2 e => ?_
            obtain ⟨k, v, a', _, _, e2⟩ := key ks2 l2 a g1 g2 e
            rw [txt_itoa] at e2
            have hkl : k.length ≤ (x :: r).length := by rw [e2]; simp only [List.length_append, List.length_cons]; omega
            exact hno ((k.length : Nat) : Int) (k ++ (enc v ++ a')) ⟨by omega, by omega⟩ (by rw [e2]; simp)
          refine ⟨WP.up (WP.ret hb), WP.up (WP.ret hb), fun s rest => ?_, fun s rest n hn hs => ?_⟩
          · unfold g__codec_reader_value_s_j8; exact WP.up (WP.ret hb)
          · unfold g__codec_reader_value_s_j7
            exact WP.ckI ⟨hn.1, hn.2⟩ (iteNb_neq (fun _ => WP.up (WP.ret hb)) fun h => absurd h hs)
end Go.Proofs.YtimalbkjflfdoaaDoor

set_option maxRecDepth 100000
set_option maxHeartbeats 1000000
namespace Go.Proofs.YtimalbkjflfdoaaDoor
open Go.DL
theorem value_s {rc : Reader → Int → Option ((Val × Reader) ⊕ Unit)} {d : Nat} (hd : d ≤ 16) {r : List UInt8} (hr : r.length ≤ 1099511627776) (hrc : d < 16 → ∀ q : List UInt8, q.length ≤ 1099511627776 → WP (rc ⟨q⟩ ((d : Int) + 1)) (VRes (d + 1) q)) : WP (g__codec_reader_value_s rc ⟨r⟩ (d : Int)) (VRes d r) := by
  unfold g__codec_reader_value_s
  refine WP.iteE (fun h0 => WP.ret ?_) (fun h0 => ?_)
  · intro v a hv e
    have h1 := enc_pos hv.1
    simp only at h0
    have : r.length = 0 := by omega
    rw [e, List.length_append] at this
    omega
  cases r with
  | nil => simp at h0
  | cons x r =>
    refine WP.gn (by simp) fun x' hx' => ?_
    simp at hx'; subst hx'
    have hrl : (x :: r).length ≤ 1099511627776 := hr
    -- what begins with x
    have first : ∀ v a, good d v → x :: r = enc v ++ a → (v.k = 1 ∧ x = 105) ∨ (v.k = 2 ∧ 48 ≤ x.toNat ∧ x.toNat ≤ 57) ∨ (v.k = 3 ∧ x = 108) ∨ (v.k = 4 ∧ x = 100) := by
      intro v a hv e
      obtain ⟨c, q, e1, c1⟩ := enc_first hv.1
      rw [e1, List.cons_append, List.cons.injEq] at e
      rw [e.1]; exact c1
    have hj1 : ∀ b : Bool, (b = true ↔ 48 ≤ x.toNat ∧ x.toNat ≤ 57) → WP (g__codec_reader_value_s_j1 ⟨x :: r⟩ x (d : Int) rc b) (VRes d (x :: r)) := by
      intro b hb
      unfold g__codec_reader_value_s_j1
      dsimp only
      refine WP.iteB (fun h => ?_) (fun h => ?_)
      · have hdig := hb.1 h
        -- a text
        have txtv : ∀ v a, good d v → x :: r = enc v ++ a → ∃ s, s.length ≤ (x :: r).length ∧ x :: r = Lib.itoa ((s.length : Nat) : Int) ++ 58 :: (s ++ a) := by
          intro v a hv e
          have hk : v.k = 2 := by
            rcases first v a hv e with ⟨_, h⟩ | ⟨h, _⟩ | ⟨_, h⟩ | ⟨_, h⟩
            · subst h; simp at hdig
            · exact h
            · subst h; simp at hdig
            · subst h; simp at hdig
          cases v with
          | mk k n s l ks =>
            simp only [Val.k] at hk
            subst hk
            simp (config := { decide := true }) only [enc, if_true, if_false] at e
            refine ⟨s, ?_, ?_⟩
            · have := txt_ge s; rw [e, List.length_append]; omega
            · rw [e, txt_itoa]; simp
        refine WP.num (c := 58) (by rfl) (by decide) (by omega) ?_ ?_
        · intro n rest hn he
          unfold g__codec_reader_value_s_j2
          refine WP.ckI ⟨hn.1, hn.2⟩ (iteNb_neq (fun h => absurd rfl h) fun _ => ?_)
          have hrl2 : rest.length < (x :: r).length := by rw [he]; simp; omega
          have same : ∀ v a, good d v → x :: r = enc v ++ a → ∃ s : List UInt8, ((s.length : Nat) : Int) = n ∧ s ++ a = rest := by
            intro v a hv e
            obtain ⟨s, h1, h2⟩ := txtv v a hv e
            exact ⟨s, itoa_split (c := 58) (m := ((s.length : Nat) : Int)) (by decide) ⟨by omega, by omega⟩ hn (h2.symm.trans he)⟩
          refine WP.iteD (fun hneg => WP.ret fun v a hv e => ?_) (fun hneg => ?_)
          · obtain ⟨s, h1, _⟩ := same v a hv e; omega
          refine WP.iteD (fun hlong => WP.ret fun v a hv e => ?_) (fun hlong => ?_)
          · obtain ⟨s, h1, h2⟩ := same v a hv e
            have : s.length ≤ rest.length := by rw [← h2]; simp
            omega
          refine WP.sb ⟨by simp, by simp; omega, by simp; omega⟩ (WP.sb ⟨by simp; omega, by simp; omega, by simp⟩ (WP.ret ?_))
          have e1 : subList rest none (some n) = rest.take n.toNat := rfl
          have e2 : subList rest (some n) none = rest.drop n.toNat := rfl
          rw [e1, e2]
          have hkl : (rest.take n.toNat).length = n.toNat := by rw [List.length_take]; omega
          refine ⟨⟨by simp [wf], ?_, by simp [dep]; omega⟩, ?_⟩
          · simp only [ints, intsL]; exact ⟨⟨by omega, by omega⟩, trivial⟩
          · show x :: r = enc (.mk 2 0 (rest.take n.toNat) [] []) ++ rest.drop n.toNat
            simp (config := { decide := true }) only [enc, if_true, if_false]
            rw [he, txt_itoa, hkl, show ((n.toNat : Nat) : Int) = n by omega]
            simp
        · intro hno
          have hb : VRes d (x :: r) (.inr ()) := fun v a hv e => by
            obtain ⟨s, h1, h2⟩ := txtv v a hv e
            exact hno ((s.length : Nat) : Int) _ ⟨by omega, by omega⟩ h2
          refine ⟨WP.ret hb, WP.ret hb, fun s rest => WP.ret hb, fun s rest n hn hs => ?_⟩
          unfold g__codec_reader_value_s_j2
          exact WP.ckI ⟨hn.1, hn.2⟩ (iteNb_neq (fun _ => WP.ret hb) fun h => absurd h hs)
      · have hdig : ¬ (48 ≤ x.toNat ∧ x.toNat ≤ 57) := fun hh => by rw [hb.2 hh] at h; cases h
        refine WP.sb ⟨by simp, by simp only [Option.getD_some, Option.getD_none, List.length_cons]; omega, by simp⟩ ?_
        have e1 : subList (x :: r) (some 1) none = r := rfl
        simp only [e1]
        refine WP.iteE (fun h105 => ?_) (fun h105 => ?_)
        · have hx : x = 105 := UInt8.toNat_inj.1 (show x.toNat = 105 by omega)
          subst hx
          have intv : ∀ v a, good d v → (105 : UInt8) :: r = enc v ++ a → ∃ n, i64 n ∧ r = Lib.itoa n ++ 101 :: a := by
            intro v a hv e
            have hk : v.k = 1 := by
              rcases first v a hv e with ⟨h, _⟩ | ⟨_, h⟩ | ⟨_, h⟩ | ⟨_, h⟩
              · exact h
              · exact absurd h hdig
              · exact absurd h (by decide)
              · exact absurd h (by decide)
            cases v with
            | mk k n s l ks =>
              simp only [Val.k] at hk
              subst hk
              have := hv.2.1
              simp only [ints] at this
              simp (config := { decide := true }) only [enc, if_true, List.cons_append, List.cons.injEq, true_and, List.append_assoc, List.nil_append] at e
              exact ⟨n, this.1, e⟩
          have hrl1 : r.length < 1099511627776 := by simp only [List.length_cons] at hrl; omega
          refine WP.num (c := 101) (by rfl) (by decide) (by omega) ?_ ?_
          · intro n rest hn he
            unfold g__codec_reader_value_s_j10
            refine WP.ckI ⟨hn.1, hn.2⟩ (iteNb_neq (fun h => absurd rfl h) fun _ => WP.ret ?_)
            refine ⟨⟨by simp [wf], ?_, by simp [dep]; omega⟩, ?_⟩
            · simp only [ints, intsL]; exact ⟨hn, trivial⟩
            · show (105 : UInt8) :: r = enc (.mk 1 n [] [] []) ++ rest
              simp [enc, he]
          · intro hno
            have hb : VRes d (105 :: r) (.inr ()) := fun v a hv e => by
              obtain ⟨n, h1, h2⟩ := intv v a hv e
              exact hno n a h1 h2
            refine ⟨WP.ret hb, WP.ret hb, fun s rest => WP.ret hb, fun s rest n hn hs => ?_⟩
            unfold g__codec_reader_value_s_j10
            exact WP.ckI ⟨hn.1, hn.2⟩ (iteNb_neq (fun _ => WP.ret hb) fun h => absurd h hs)
        have hrl1 : r.length ≤ 1099511627776 := by simp only [List.length_cons] at hrl; omega
        have lists : ∀ (kd : Int), (kd = 3 ∨ kd = 4) → x = (if kd = 4 then 100 else 108) → WP (g__codec_reader_value_s_j4 (d : Int) rc r kd) (VRes d (x :: r)) := by
          intro kd hk hx
          unfold g__codec_reader_value_s_j4
          refine WP.iteE (fun hd16 => WP.ret fun v a hv e => ?_) (fun hd16 => ?_)
          · have hkv : v.k = 3 ∨ v.k = 4 := by
              rcases first v a hv e with ⟨_, h⟩ | ⟨_, h⟩ | ⟨h, _⟩ | ⟨h, _⟩
              · rw [h] at h105; exact absurd rfl h105
              · exact absurd h hdig
              · exact .inl h
              · exact .inr h
            cases v with
            | mk k n s l ks =>
              simp only [Val.k] at hkv
              obtain ⟨_, _, _, h, _⟩ := list_good hkv hv
              omega
          · rw [hx]
            exact list_loop hk (by omega) hrl1 (hrc (by omega))
        refine WP.iteE (fun h108 => lists 3 (.inl rfl) (UInt8.toNat_inj.1 (show x.toNat = 108 by omega))) (fun h108 => WP.iteE (fun h100 => lists 4 (.inr rfl) (UInt8.toNat_inj.1 (show x.toNat = 100 by omega))) (fun h100 => WP.ret fun v a hv e => ?_))
        rcases first v a hv e with ⟨_, h⟩ | ⟨_, h⟩ | ⟨_, h⟩ | ⟨_, h⟩
        · rw [h] at h105; exact absurd rfl h105
        · exact absurd h hdig
        · rw [h] at h108; exact absurd rfl h108
        · rw [h] at h100; exact absurd rfl h100
    refine WP.iteD (fun h => hj1 _ ?_) (fun h => hj1 false ?_)
    · rw [decide_eq_true_eq]; omega
    · constructor
      · intro h; cases h
      · intro hh; omega
theorem value_eq : ∀ (fu d : Nat), d ≤ 16 → 17 ≤ fu + d → ∀ {r : List UInt8}, r.length ≤ 1099511627776 → WP (g__codec_reader_value fu ⟨r⟩ (d : Int)) (VRes d r)
  | 0, d, h1, h2, _, _ => by omega
  | fu + 1, d, h1, h2, r, hr => value_s h1 hr fun hd q hq => value_eq fu (d + 1) (by omega) (by omega) hq
def Dec02 (b : List UInt8) (y : Val × Int) : Prop := (good 0 y.1 ∧ enc y.1 = b ∧ y.2 = 0) ∨ ((∀ v, good 0 v → enc v ≠ b) ∧ y = (zV, 20))
theorem good_rng {d : Nat} {v : Val} {n : Nat} (h : good d v) (hl : (enc v).length ≤ n) (hn : n ≤ 140737488355328) : rng v := rng_of h.1 h.2.1 (by omega)
theorem decode_eq {b : List UInt8} (hb : b.length ≤ 1099511627776) : WP (g_codec_Decode b) fun y => ∃ p, y = .inl p ∧ Dec02 b p := by
  obtain ⟨y, hy, hV⟩ := value_eq 60 0 (by omega) (by omega) hb
  unfold g_codec_Decode
  cases y with
  | inl y =>
    obtain ⟨v, q⟩ := y
    obtain ⟨h1, h2⟩ := hV
    simp only at h1 h2
    refine WP.bdP hy (WP.iteD (fun h => WP.ret ⟨_, rfl, .inr ⟨fun w hw he => ?_, rfl⟩⟩) (fun h => WP.ret ⟨_, rfl, .inl ⟨h1, ?_, rfl⟩⟩))
    · simp only at h
      have hlen : (enc v).length ≤ b.length := by rw [h2]; simp
      have := enc_split (good_rng hw (n := b.length) (by rw [he]; omega) (by omega)) (good_rng h1 hlen (by omega)) hw.1 h1.1 (a := []) (b := q.rest) (by rw [← h2, List.append_nil]; exact he)
      rw [← this.2] at h; simp at h
    · have : q.rest = [] := List.eq_nil_of_length_eq_zero (by simp only at h; omega)
      rw [h2, this, List.append_nil]
  | inr u =>
    refine WP.bdPz hy (WP.ret ⟨_, rfl, .inr ⟨fun w hw he => hV w [] hw (by rw [List.append_nil]; exact he.symm), rfl⟩⟩)
end Go.Proofs.YtimalbkjflfdoaaDoor

set_option maxRecDepth 100000
set_option maxHeartbeats 1000000
namespace Go.Proofs.YtimalbkjflfdoaaDoor
open Go.DL
theorem decDigits_lt {u : Nat} {k : Nat} (h : u < 10 ^ k) (hk : 1 ≤ k) : (Lib.decDigits u).length ≤ k := by
  induction k generalizing u with
  | zero => omega
  | succ k ih =>
    by_cases h10 : u < 10
    · rw [Lib.decDigits_one h10]; simp
    · rw [Lib.decDigits.eq_1 u, dif_neg h10, List.length_append]
      have hk1 : 1 ≤ k := by
        rcases Nat.eq_zero_or_pos k with rfl | h2
        · simp at h; omega
        · exact h2
      have := ih (u := u / 10) (by rw [Nat.pow_succ] at h; omega) hk1
      simp; omega
theorem decDigits_head : ∀ (u : Nat), 1 ≤ u → ∃ c r, Lib.decDigits u = c :: r ∧ 49 ≤ c.toNat := by
  intro u
  induction u using Nat.strongRecOn with
  | _ u ih =>
    intro hu
    by_cases h : u < 10
    · exact ⟨_, [], Lib.decDigits_one h, by rw [digit_toNat h]; omega⟩
    · obtain ⟨c, r, e, hc⟩ := ih (u / 10) (by omega) (by omega)
      rw [Lib.decDigits.eq_1 u, dif_neg h, e]
      exact ⟨c, r ++ _, rfl, hc⟩
theorem decDigits_snoc {u : Nat} {x : UInt8} (hu : 1 ≤ u) (hx : 48 ≤ x.toNat ∧ x.toNat ≤ 57) : Lib.decDigits (10 * u + (x.toNat - 48)) = Lib.decDigits u ++ [x] := by
  rw [Lib.decDigits.eq_1 (10 * u + (x.toNat - 48)), dif_neg (by omega)]
  rw [show (10 * u + (x.toNat - 48)) / 10 = u by omega, show (10 * u + (x.toNat - 48)) % 10 = x.toNat - 48 by omega]
  congr 2
  exact UInt8.toNat_inj.1 (by rw [digit_toNat (by omega)]; omega)
theorem decDigits_dig {x : UInt8} (hx : 48 ≤ x.toNat ∧ x.toNat ≤ 57) : Lib.decDigits (x.toNat - 48) = [x] := by
  rw [Lib.decDigits_one (by omega)]
  congr 1
  exact UInt8.toNat_inj.1 (by rw [digit_toNat (by omega)]; omega)
theorem dsplit {E : UInt8} {a : List UInt8} : ∀ {D D' R : List UInt8}, (∀ c ∈ D, 48 ≤ c.toNat ∧ c.toNat ≤ 57) → 58 ≤ E.toNat → D ++ R = D' ++ E :: a → ∃ t, D' = D ++ t ∧ R = t ++ E :: a
  | [], D', R, _, _, h => ⟨D', rfl, h⟩
  | c :: D, [], R, h1, h2, h => by
    rw [List.cons_append, List.nil_append, List.cons.injEq] at h
    have := h1 c List.mem_cons_self
    rw [h.1] at this; omega
  | c :: D, c' :: D', R, h1, h2, h => by
    rw [List.cons_append, List.cons_append, List.cons.injEq] at h
    obtain ⟨t, e1, e2⟩ := dsplit (fun x hx => h1 x (List.mem_cons_of_mem _ hx)) h2 h.2
    exact ⟨t, by rw [h.1, e1]; rfl, e2⟩
noncomputable def numL {ρ : Type} (B : List UInt8) (S E : Int) (fail : Int → Option ρ) (done : Int → Int → Bool → Option ρ) (v : Int × Int × Bool) : Option ((Int × Int × Bool) ⊕ ρ) :=
  let j9 : Int → Int → Int → Bool → Bool → Option ((Int × Int × Bool) ⊕ ρ) := fun i n x b c =>
    if c = true then (up (fail i)) else ckI (i + 1) <| some (.inl ((IntKind.u64.wrap ((IntKind.u64.wrap (10 * n)) + (IntKind.u64.wrap (IntKind.u8.wrap (x - 48))))), (i + 1), b))
  let j8 : Int → Int → Int → Bool → Option ((Int × Int × Bool) ⊕ ρ) := fun i n x b =>
    if (decide (x < 48)) = true then (j9 i n x b true) else if (decide (x > 57)) = true then (j9 i n x b true) else ckI (i - S) <| if (decide ((i - S) > 18)) = true then (j9 i n x b true) else if (decide (i > S)) = true then (Go.DL.gt B S fun y => j9 i n x b (((y.toNat : Nat) : Int) == 48)) else j9 i n x b false
  let j7 : Int → Int → Bool → Bool → Option ((Int × Int × Bool) ⊕ ρ) := fun i n c b =>
    if c = true then (if (decide (i < ((B.length : Nat) : Int))) = true then (Go.DL.gt B i fun x => j8 i n ((x.toNat : Nat) : Int) b) else j8 i n 0 true) else up (done n i b)
  match v with | (n, i, b) => if (!b) = true then (if (decide (i < ((B.length : Nat) : Int))) = true then (Go.DL.gt B i fun x => j7 i n (((x.toNat : Nat) : Int) != E) b) else j7 i n (0 != E) true) else j7 i n false b
theorem text_l6_num (r : Assizeref02Reader) : g__ref02_Reader_text_l6 r = numL r.B r.At 58 (fun i => g__ref02_Reader_text_j1 r 0 i true) (fun n i b => g__ref02_Reader_text_j3 r n i b) := by
  funext v; rfl
theorem value_l7_num (r : Assizeref02Reader) : g__ref02_Reader_Value_s_l7 r = numL r.B (r.At + 1) 101 (fun i => g__ref02_Reader_Value_s_j3 r 0 i true) (fun n i b => g__ref02_Reader_Value_s_j4 r n i b) := by
  funext v; rfl
theorem value_l16_num (r : Assizeref02Reader) : g__ref02_Reader_Value_s_l16 r = numL r.B (r.At + 1 + 1) 101 (fun i => g__ref02_Reader_Value_s_j12 r 0 i true) (fun n i b => g__ref02_Reader_Value_s_j13 r n i b) := by
  funext v; rfl
theorem numL_eq {ρ : Type} {Q : ρ → Prop} {B : List UInt8} {S : Nat} {E : UInt8} {EI : Int} (hEI : EI = ((E.toNat : Nat) : Int)) (hE : 58 ≤ E.toNat) (hB : B.length ≤ 100000) (hS : S ≤ B.length) {fail : Int → Option ρ} {done : Int → Int → Bool → Option ρ}
    (hdone : ∀ (u : Nat) a, u < 10 ^ 19 → B.drop S = Lib.decDigits u ++ E :: a → WP (done ((u : Nat) : Int) (((S + (Lib.decDigits u).length : Nat)) : Int) false) Q)
    (hempty : ∀ a, B.drop S = E :: a → WP (done 0 ((S : Nat) : Int) false) Q)
    (hfail : (∀ (u : Nat) a, u < 10 ^ 19 → B.drop S ≠ Lib.decDigits u ++ E :: a) → ∀ i : Nat, S ≤ i → i ≤ B.length → WP (fail ((i : Nat) : Int)) Q) :
    WP (loopO (numL B ((S : Nat) : Int) EI fail done) (0, ((S : Nat) : Int), false)) Q := by
  subst hEI
  refine WP.loop (fun (p : Int × Int × Bool) => ∃ n j : Nat, p = (((n : Nat) : Int), (((S + j : Nat)) : Int), false) ∧ S + j ≤ B.length ∧ n < 10 ^ j ∧ j ≤ 19 ∧ ((j = 0 ∧ n = 0) ∨ (1 ≤ j ∧ (Lib.decDigits n).length = j ∧ B.drop S = Lib.decDigits n ++ B.drop (S + j)))) (fun p => B.length - p.2.1.toNat) ?_ ⟨0, 0, rfl, by omega, by simp, by omega, .inl ⟨rfl, rfl⟩⟩
  rintro _ ⟨n, j, rfl, h1, h2, h3, h4⟩
  -- the digits before
  have hD : ∃ D : List UInt8, D.length = j ∧ (∀ c ∈ D, 48 ≤ c.toNat ∧ c.toNat ≤ 57) ∧ B.drop S = D ++ B.drop (S + j) := by
    rcases h4 with ⟨rfl, rfl⟩ | ⟨_, h5, h6⟩
    · exact ⟨[], rfl, by simp, rfl⟩
    · exact ⟨_, h5, decDigits_mem n, h6⟩
  obtain ⟨D, hD1, hD2, hD3⟩ := hD
  have hsp : ∀ (u : Nat) a, B.drop S = Lib.decDigits u ++ E :: a → ∃ t, Lib.decDigits u = D ++ t ∧ B.drop (S + j) = t ++ E :: a := fun u a h => dsplit hD2 hE (hD3.symm.trans h)
  unfold numL
  dsimp only
  refine WP.iteNb (WP.iteF (WP.iteD (fun hlt => ?_) (fun hlt => ?_)))
  · have hlt' : S + j < B.length := by omega
    refine WP.gt ⟨by omega, by omega⟩ fun x hx => ?_
    have hx' : B[S + j]? = some x := by rw [Int.toNat_natCast] at hx; exact hx
    have hdrop : B.drop (S + j) = x :: B.drop (S + j + 1) := by
      rw [List.drop_eq_getElem_cons hlt']
      rw [List.getElem?_eq_getElem hlt'] at hx'
      cases hx'; rfl
    refine WP.iteN (fun hne => ?_) (fun heq => ?_)
    · have hxE : x ≠ E := fun h => hne (by rw [h])
      have hsp' : ∀ (u : Nat) a, B.drop S = Lib.decDigits u ++ E :: a → ∃ t, Lib.decDigits u = D ++ x :: t := by
        intro u a h
        obtain ⟨t, e1, e2⟩ := hsp u a h
        rw [hdrop] at e2
        cases t with
        | nil => rw [List.nil_append, List.cons.injEq] at e2; exact absurd e2.1 hxE
        | cons y t => rw [List.cons_append, List.cons.injEq] at e2; exact ⟨t, by rw [e1, e2.1]⟩
      have hf : (∀ (u : Nat) a, u < 10 ^ 19 → B.drop S ≠ Lib.decDigits u ++ E :: a) → WP (fail (((S + j : Nat)) : Int)) Q := fun h => hfail h (S + j) (by omega) h1
      refine WP.iteD (fun _ => ?_) (fun h => absurd hlt h)
      refine WP.gt ⟨by omega, by omega⟩ fun x2 hx2 => ?_
      have : x2 = x := by rw [hx] at hx2; cases hx2; rfl
      subst this
      have nd : ¬ (48 ≤ x2.toNat ∧ x2.toNat ≤ 57) → WP (fail (((S + j : Nat)) : Int)) Q := fun hnd => hf fun u a hu h => by
        obtain ⟨t, e⟩ := hsp' u a h
        exact hnd (decDigits_mem u x2 (by rw [e]; simp))
      refine WP.iteD (fun h48 => WP.iteT (WP.up (nd (by omega)))) (fun h48 => WP.iteD (fun h57 => WP.iteT (WP.up (nd (by omega)))) (fun h57 => ?_))
      have hdig : 48 ≤ x2.toNat ∧ x2.toNat ≤ 57 := by omega
      refine WP.ckI (by omega) (WP.iteD (fun h18 => WP.iteT (WP.up (hf fun u a hu h => ?_))) (fun h18 => ?_))
      · obtain ⟨t, e⟩ := hsp' u a h
        have := decDigits_lt (k := 19) hu (by omega)
        rw [e, List.length_append, List.length_cons] at this; omega
      have w8 : IntKind.u8.wrap (((x2.toNat : Nat) : Int) - 48) = (((x2.toNat - 48 : Nat)) : Int) := by
        have : IntKind.u8.wrap (((x2.toNat - 48 : Nat)) : Int) = (((x2.toNat - 48 : Nat)) : Int) := by
          simp only [IntKind.wrap, IntKind.signed, IntKind.bits]
          simp
          omega
        rw [← this]; congr 1; omega
      have hp : 10 ^ (j + 1) ≤ 10 ^ 19 := Nat.pow_le_pow_right (by omega) (by omega)
      have hps : 10 ^ (j + 1) = 10 * 10 ^ j := by rw [Nat.pow_succ]; omega
      have go : (j = 0 ∨ 1 ≤ n) → WP (Go.DL.ckI ((((S + j : Nat)) : Int) + 1) (some (Sum.inl (IntKind.u64.wrap (IntKind.u64.wrap (10 * ((n : Nat) : Int)) + IntKind.u64.wrap (IntKind.u8.wrap (((x2.toNat : Nat) : Int) - 48))), (((S + j : Nat)) : Int) + 1, false)))) (Rnd (fun (p : Int × Int × Bool) => ∃ n j : Nat, p = (((n : Nat) : Int), (((S + j : Nat)) : Int), false) ∧ S + j ≤ B.length ∧ n < 10 ^ j ∧ j ≤ 19 ∧ ((j = 0 ∧ n = 0) ∨ (1 ≤ j ∧ (Lib.decDigits n).length = j ∧ B.drop S = Lib.decDigits n ++ B.drop (S + j)))) (fun p => B.length - p.2.1.toNat) (B.length - (((S + j : Nat)) : Int).toNat) Q) := by
        intro hz
        refine WP.ckI (by omega) (WP.ret ⟨⟨10 * n + (x2.toNat - 48), j + 1, ?_, by omega, by omega, by omega, .inr ⟨by omega, ?_, ?_⟩⟩, ?_⟩)
        · rw [w8, u64w (x := 10 * ((n : Nat) : Int)) (by omega) (by omega), u64w (x := (((x2.toNat - 48 : Nat)) : Int)) (by omega) (by omega), u64w (by omega) (by omega)]
          simp only [Prod.mk.injEq, and_true]
          constructor <;> omega
        · rcases h4 with ⟨rfl, rfl⟩ | ⟨h4, h5, h6⟩
          · rw [Nat.mul_zero, Nat.zero_add, decDigits_dig hdig]; rfl
          · rw [decDigits_snoc (by omega) hdig, List.length_append, h5]; rfl
        · rw [← Nat.add_assoc]
          rcases h4 with ⟨rfl, rfl⟩ | ⟨h4, h5, h6⟩
          · rw [Nat.mul_zero, Nat.zero_add, decDigits_dig hdig]; exact hdrop
          · rw [decDigits_snoc (by omega) hdig, h6, hdrop, List.append_assoc]; rfl
        · show B.length - ((((S + j : Nat)) : Int) + 1).toNat < B.length - (((S + j : Nat)) : Int).toNat
          omega
      refine WP.iteD (fun hgt => ?_) (fun hgt => WP.iteF (go (.inl (by omega))))
      refine WP.gt ⟨by omega, by omega⟩ fun y hy => ?_
      rcases h4 with ⟨rfl, rfl⟩ | ⟨h4, h5, h6⟩
      · omega
      have hyh : B.drop S = y :: B.drop (S + 1) := by
        have hlS : S < B.length := by omega
        have hy' : B[S]? = some y := by simpa using hy
        rw [List.drop_eq_getElem_cons hlS]
        rw [List.getElem?_eq_getElem hlS] at hy'
        cases hy'; rfl
      obtain ⟨c, r, hc, _⟩ := decDigits_cons n
      have hcy : y = c := by
        rw [hyh, hc, List.cons_append, List.cons.injEq] at h6; exact h6.1
      refine WP.iteE (fun h0 => WP.up (hf fun u a hu h => ?_)) (fun h0 => go (.inr ?_))
      · obtain ⟨t, e⟩ := hsp' u a h
        have hu1 : 1 ≤ u := by
          rcases Nat.eq_zero_or_pos u with rfl | h
          · have e0 := congrArg List.length e
            rw [Lib.decDigits_one (by omega), List.length_append, List.length_cons, hD1] at e0
            simp at e0; omega
          · exact h
        obtain ⟨c2, r2, hc2, hc3⟩ := decDigits_head u hu1
        rw [h, hc2, List.cons_append, List.cons.injEq] at hyh
        rw [hyh.1] at hc3; omega
      · rcases Nat.eq_zero_or_pos n with rfl | h
        · rw [Lib.decDigits_one (by omega), List.cons.injEq] at hc
          exact absurd (show ((y.toNat : Nat) : Int) = 48 by rw [hcy, ← hc.1]; rfl) h0
        · exact h
    · have hxE : x = E := UInt8.toNat_inj.1 (by omega)
      subst hxE
      refine WP.up ?_
      rcases h4 with ⟨rfl, rfl⟩ | ⟨h4, h5, h6⟩
      · exact hempty _ hdrop
      · have := hdone n (B.drop (S + j + 1)) (by have : 10 ^ j ≤ 10 ^ 19 := Nat.pow_le_pow_right (by omega) (by omega); omega) (by rw [h6, hdrop])
        rw [h5] at this; exact this
  · have hnil : B.drop (S + j) = [] := List.drop_eq_nil_iff.2 (by omega)
    refine WP.iteN (fun _ => ?_) (fun h => by omega)
    refine WP.iteD (fun h => absurd h hlt) (fun _ => ?_)
    refine WP.iteD (fun _ => WP.iteT (WP.up (hfail (fun u a hu h => ?_) (S + j) (by omega) h1))) (fun h => absurd (by decide : (0 : Int) < 48) h)
    obtain ⟨t, _, e2⟩ := hsp u a h
    rw [hnil] at e2; simp at e2
end Go.Proofs.YtimalbkjflfdoaaDoor

set_option maxRecDepth 100000
set_option maxHeartbeats 1000000
namespace Go.Proofs.YtimalbkjflfdoaaDoor
open Go.DL
theorem dd_inj {u v : Nat} (hu : u ≤ 18446744073709551615) (hv : v ≤ 18446744073709551615) (h : Lib.decDigits u = Lib.decDigits v) : u = v := by
  have h1 := parseM_digits u hu
  rw [h, parseM_digits v hv] at h1
  injection h1 with h1
  exact h1.symm
theorem dd_split {E : UInt8} (hE : 58 ≤ E.toNat) {u v : Nat} {a b : List UInt8} (hu : u ≤ 18446744073709551615) (hv : v ≤ 18446744073709551615) (h : Lib.decDigits u ++ E :: a = Lib.decDigits v ++ E :: b) : u = v ∧ a = b := by
  have no : ∀ w, E ∉ Lib.decDigits w := fun w hw => by have := decDigits_mem w E hw; omega
  obtain ⟨h1, h2⟩ := split_at (no u) (no v) h
  exact ⟨dd_inj hu hv h1, h2⟩
theorem numL_bad {ρ : Type} {Q : ρ → Prop} {B : List UInt8} {S E : Int} {fail : Int → Option ρ} {done : Int → Int → Bool → Option ρ} (h : WP (done 0 S true) Q) : WP (loopO (numL B S E fail done) (0, S, true)) Q := by
  refine WP.loop (fun p => p = (0, S, true)) (fun _ => 0) ?_ rfl
  rintro _ rfl
  unfold numL
  dsimp only
  exact WP.iteNb (WP.iteT (WP.iteF (WP.up h)))
theorem drop_len {B a D : List UInt8} {S : Nat} (hS : S ≤ B.length) (h : B.drop S = D ++ a) : S + D.length + a.length = B.length ∧ B.drop (S + D.length) = a := by
  have h1 := congrArg List.length h
  rw [List.length_drop, List.length_append] at h1
  refine ⟨by omega, ?_⟩
  rw [← List.drop_drop, h, List.drop_left]
def TRes (B : List UInt8) (at_ : Nat) : (List UInt8 × Assizeref02Reader) ⊕ Unit → Prop
  | .inl y => ∃ e : Nat, y.2.At = e ∧ at_ ≤ e ∧ y.2.B = B ∧ e ≤ B.length ∧ (y.2.Bad = false → at_ + y.1.length + 2 ≤ e) ∧ ∀ s a, B.drop at_ = txt s ++ a → y.1 = s ∧ y.2.Bad = false ∧ B.drop e = a
  | .inr _ => False
theorem rtext_bad {B : List UInt8} {at_ : Nat} (h : at_ ≤ 200000) : g__ref02_Reader_text ⟨B, at_, true⟩ = some (.inl ([], ⟨B, ((at_ + 1 : Nat) : Int), true⟩)) := by
  refine WP.eq ?_
  unfold g__ref02_Reader_text
  rw [text_l6_num]
  refine numL_bad ?_
  unfold g__ref02_Reader_text_j3
  refine WP.iteE (fun _ => ?_) (fun h => absurd rfl h)
  unfold g__ref02_Reader_text_j5
  refine WP.iteT ?_
  unfold g__ref02_Reader_text_j4
  refine WP.ckI (by dsimp only; omega) ?_
  unfold g__ref02_Reader_text_j1
  refine WP.iteT ?_
  unfold g__ref02_Reader_text_j2
  refine WP.iteT (WP.ret ?_)
  simp
theorem rtext_at {B : List UInt8} {at_ : Nat} (hB : B.length ≤ 100000) (h : at_ ≤ B.length) : WP (g__ref02_Reader_text ⟨B, at_, false⟩) (TRes B at_) := by
  unfold g__ref02_Reader_text
  rw [text_l6_num]
  dsimp only
  -- a text there
  have long : ∀ (s : List UInt8) a, B.drop at_ = txt s ++ a → s.length ≤ B.length ∧ B.drop at_ = Lib.decDigits s.length ++ 58 :: (s ++ a) := by
    intro s a hs
    have := congrArg List.length hs
    have := txt_ge s
    rw [List.length_drop, List.length_append] at *
    exact ⟨by omega, by rw [hs]; simp [txt]⟩
  refine numL_eq (E := 58) rfl (by decide) hB h ?_ ?_ ?_
  · intro u a hu hd
    have hl := drop_len h hd
    rw [List.length_cons] at hl
    have hD : 1 ≤ (Lib.decDigits u).length := by
      obtain ⟨c, r, e, _⟩ := decDigits_cons u
      rw [e]; simp
    have hdrop : B.drop (at_ + (Lib.decDigits u).length + 1) = a := by
      have := hl.2
      rw [← List.drop_drop, this]; rfl
    have same : ∀ (s : List UInt8) b, B.drop at_ = txt s ++ b → u = s.length ∧ a = s ++ b ∧ s.length ≤ B.length := by
      intro s b hs
      obtain ⟨h1, h2⟩ := long s b hs
      obtain ⟨h3, h4⟩ := dd_split (E := 58) (by decide) (by omega) (by omega) (hd.symm.trans h2)
      exact ⟨h3, h4, h1⟩
    have bad : (∀ (s : List UInt8) b, B.drop at_ = txt s ++ b → False) → TRes B at_ (.inl ([], ⟨B, (((at_ + (Lib.decDigits u).length : Nat)) : Int) + 1, true⟩)) := by
      intro hno
      refine ⟨at_ + (Lib.decDigits u).length + 1, by simp only; omega, by omega, rfl, by omega, (fun h => by cases h), fun s b hs => (hno s b hs).elim⟩
    unfold g__ref02_Reader_text_j3
    refine WP.iteE (fun h => by dsimp only at h; omega) (fun _ => ?_)
    unfold g__ref02_Reader_text_j5
    dsimp only
    rw [u64w (x := ((B.length : Nat) : Int)) (by omega) (by omega)]
    refine WP.iteD (fun hu2 => ?_) (fun hu2 => ?_)
    · unfold g__ref02_Reader_text_j4
      refine WP.ckI (by omega) ?_
      unfold g__ref02_Reader_text_j1
      refine WP.iteT ?_
      unfold g__ref02_Reader_text_j2
      refine WP.iteT (WP.ret (bad fun s b hs => ?_))
      obtain ⟨h1, _, h2⟩ := same s b hs
      omega
    · unfold g__ref02_Reader_text_j4
      refine WP.ckI (by omega) ?_
      unfold g__ref02_Reader_text_j1
      refine WP.iteF (WP.ckI (by omega) (WP.ckI (by dsimp only; omega) ?_))
      unfold g__ref02_Reader_text_j2
      dsimp only
      refine WP.iteD (fun hu3 => WP.ret (bad fun s b hs => ?_)) (fun hu3 => WP.ckI (by omega) (WP.ckI (by omega) (WP.sb ⟨by simp only [Option.getD_some]; omega, by simp only [Option.getD_some]; omega, by simp only [Option.getD_some]; omega⟩ (WP.ret ?_))))
      · obtain ⟨h1, h2, _⟩ := same s b hs
        have := congrArg List.length h2
        rw [List.length_append] at this
        omega
      have hs : subList B (some ((((at_ + (Lib.decDigits u).length : Nat)) : Int) + 1)) (some ((((at_ + (Lib.decDigits u).length : Nat)) : Int) + 1 + ((u : Nat) : Int))) = a.take u := by
        show (B.take _).drop _ = _
        rw [show ((((at_ + (Lib.decDigits u).length : Nat)) : Int) + 1 + ((u : Nat) : Int)).toNat = at_ + (Lib.decDigits u).length + 1 + u by omega, show ((((at_ + (Lib.decDigits u).length : Nat)) : Int) + 1).toNat = at_ + (Lib.decDigits u).length + 1 by omega, List.drop_take, hdrop]
        congr 1; omega
      rw [hs]
      refine ⟨at_ + (Lib.decDigits u).length + 1 + u, by simp only; omega, by omega, rfl, by omega, fun _ => ?_, fun s b hs => ?_⟩
      · simp only [List.length_take]; omega
      · obtain ⟨h1, h2, _⟩ := same s b hs
        refine ⟨?_, rfl, ?_⟩
        · rw [h2, h1, List.take_left]
        · rw [← List.drop_drop, hdrop, h2, h1, List.drop_left]
  · intro a hd
    have hl := drop_len (D := []) h hd
    rw [List.length_cons, List.length_nil] at hl
    unfold g__ref02_Reader_text_j3
    refine WP.iteE (fun _ => ?_) (fun h => absurd rfl h)
    unfold g__ref02_Reader_text_j5
    refine WP.iteT ?_
    unfold g__ref02_Reader_text_j4
    refine WP.ckI (by omega) ?_
    unfold g__ref02_Reader_text_j1
    refine WP.iteT ?_
    unfold g__ref02_Reader_text_j2
    refine WP.iteT (WP.ret ⟨at_ + 1, by simp only; omega, by omega, rfl, by omega, (fun h => by cases h), fun s b hs => ?_⟩)
    obtain ⟨_, h2⟩ := long s b hs
    obtain ⟨c, r, e, hc⟩ := decDigits_cons s.length
    rw [hd, e, List.cons_append, List.cons.injEq] at h2
    rw [← h2.1] at hc
    exact absurd hc (by decide)
  · intro hno i h1 h2
    unfold g__ref02_Reader_text_j1
    refine WP.iteT ?_
    unfold g__ref02_Reader_text_j2
    refine WP.iteT (WP.ret ⟨i, rfl, h1, rfl, h2, (fun h => by cases h), fun s b hs => ?_⟩)
    obtain ⟨h3, h4⟩ := long s b hs
    exact absurd h4 (hno _ _ (by omega))
def RRes (d : Nat) (B : List UInt8) (at_ : Nat) : (Val × Assizeref02Reader) ⊕ Unit → Prop
  | .inl y => ∃ e : Nat, y.2.At = e ∧ at_ ≤ e ∧ y.2.B = B ∧ e ≤ B.length + 4 * (20 - d) ∧ (y.2.Bad = false → at_ < e ∧ e ≤ B.length ∧ rng y.1 ∧ hgt y.1 ≤ 20 - d ∧ cnt y.1 ≤ e - at_) ∧ ∀ w a, good d w → B.drop at_ = enc w ++ a → y.1 = w ∧ y.2.Bad = false ∧ B.drop e = a
  | .inr _ => False
theorem rint_rng {n : Int} (h : i64 n) : rng (.mk 1 n [] [] []) ∧ hgt (.mk 1 n [] [] []) = 1 ∧ cnt (.mk 1 n [] [] []) = 1 := by
  refine ⟨?_, by simp [hgt, hgtL], by simp [cnt, cntL]⟩
  simp only [rng, rngL]
  exact ⟨⟨by omega, by omega⟩, h, by simp, by simp, by simp, by simp, trivial⟩
theorem i64_keep {x : Int} (h : i64 x) : IntKind.i64.wrap x = x := by
  obtain ⟨h1, h2⟩ := h
  simp only [IntKind.wrap, IntKind.bits, IntKind.signed]
  simp
  omega
theorem rint_pos {B : List UInt8} {at_ d : Nat} {b : Bool} (hd : d ≤ 16) (hB : B.length ≤ 100000) (h : at_ + 1 ≤ B.length) (hx : B.drop at_ = 105 :: B.drop (at_ + 1)) (hb : b = false ∨ B.drop (at_ + 1) = [])
    (hy : ∀ r, B.drop (at_ + 1) ≠ 45 :: r) : WP (loopO (g__ref02_Reader_Value_s_l7 ⟨B, at_, false⟩) (0, ((at_ : Nat) : Int) + 1, b)) (RRes d B at_) := by
  rw [value_l7_num]
  dsimp only
  -- an integer there
  have intv : ∀ w a, good d w → B.drop at_ = enc w ++ a → ∃ u : Nat, u ≤ 9223372036854775807 ∧ w = .mk 1 ((u : Nat) : Int) [] [] [] ∧ B.drop (at_ + 1) = Lib.decDigits u ++ 101 :: a := by
    intro w a hw e
    have hk : w.k = 1 := by
      obtain ⟨c, q, e1, c1⟩ := enc_first hw.1
      rw [e1, hx, List.cons_append, List.cons.injEq] at e
      rcases c1 with ⟨h, _⟩ | ⟨_, h⟩ | ⟨_, h⟩ | ⟨_, h⟩
      · exact h
      · rw [← e.1] at h; exact absurd h (by decide)
      · rw [← e.1] at h; exact absurd h (by decide)
      · rw [← e.1] at h; exact absurd h (by decide)
    cases w with
    | mk k n s l ks =>
      simp only [Val.k] at hk
      subst hk
      have h1 := hw.2.1
      simp only [ints] at h1
      obtain ⟨rfl, rfl, rfl⟩ := wf1 hw.1
      simp only [enc, if_true, List.cons_append, List.append_assoc, List.nil_append] at e
      rw [hx, List.cons.injEq] at e
      have hn : 0 ≤ n := by
        rcases Int.lt_or_le n 0 with h | h
        · exact absurd (e.2.trans (by unfold Lib.itoa; rw [if_pos h]; rfl)) (hy _)
        · exact h
      refine ⟨n.toNat, by have := h1.1.2; omega, by rw [Int.toNat_of_nonneg hn], ?_⟩
      rw [e.2]; unfold Lib.itoa; rw [if_neg (by omega)]
  have badR : ∀ (v : Val) (e : Int), ((at_ : Nat) : Int) ≤ e → e ≤ ((B.length : Nat) : Int) + 1 → (∀ w a, good d w → B.drop at_ = enc w ++ a → False) → RRes d B at_ (.inl (v, ⟨B, e, true⟩)) := by
    intro v e h1 h2 hno
    exact ⟨e.toNat, by simp only; omega, by omega, rfl, by omega, (fun h => by cases h), fun w a hw he => (hno w a hw he).elim⟩
  have empt : ∀ b, (B.drop (at_ + 1) = [] ∨ ∃ a, B.drop (at_ + 1) = 101 :: a) → WP (g__ref02_Reader_Value_s_j4 ⟨B, at_, false⟩ 0 (((at_ : Nat) : Int) + 1) b) (RRes d B at_) := by
    intro b hd2
    unfold g__ref02_Reader_Value_s_j4
    refine WP.iteE (fun _ => ?_) (fun h => absurd rfl h)
    unfold g__ref02_Reader_Value_s_j6
    refine WP.iteT ?_
    unfold g__ref02_Reader_Value_s_j5
    refine WP.ckI (by omega) ?_
    unfold g__ref02_Reader_Value_s_j3
    refine WP.ret (badR _ _ (by omega) (by omega) fun w a hw he => ?_)
    obtain ⟨u, _, _, h3⟩ := intv w a hw he
    obtain ⟨c, r, e, hc⟩ := decDigits_cons u
    rw [e, List.cons_append] at h3
    rcases hd2 with h | ⟨q, h⟩
    · rw [h] at h3; cases h3
    · rw [h, List.cons.injEq] at h3
      rw [← h3.1] at hc
      exact absurd hc (by decide)
  rw [show ((at_ : Nat) : Int) + 1 = ((at_ + 1 : Nat) : Int) by omega] at *
  rcases hb with rfl | hnil
  rotate_left
  · cases b with
    | true => exact numL_bad (empt true (.inl hnil))
    | false =>
      refine numL_eq (E := 101) rfl (by decide) hB h ?_ ?_ ?_
      · intro u a hu hd2; rw [hnil] at hd2; simp at hd2
      · intro a hd2; exact empt false (.inr ⟨a, hd2⟩)
      · intro hno i h1 h2
        unfold g__ref02_Reader_Value_s_j3
        refine WP.ret (badR _ _ (by omega) (by omega) fun w a hw he => ?_)
        obtain ⟨u, h3, _, h4⟩ := intv w a hw he
        exact hno u a (by omega) h4
  refine numL_eq (E := 101) rfl (by decide) hB h ?_ ?_ ?_
  · intro u a hu hd2
    have hl := drop_len h hd2
    rw [List.length_cons] at hl
    have hD : 1 ≤ (Lib.decDigits u).length := by
      obtain ⟨c, r, e, _⟩ := decDigits_cons u
      rw [e]; simp
    have hdrop : B.drop (at_ + 1 + (Lib.decDigits u).length + 1) = a := by
      have := hl.2
      rw [← List.drop_drop, this]; rfl
    have same : ∀ w b, good d w → B.drop at_ = enc w ++ b → u ≤ 9223372036854775807 ∧ w = .mk 1 ((u : Nat) : Int) [] [] [] ∧ a = b := by
      intro w b hw he
      obtain ⟨u2, h1, h2, h3⟩ := intv w b hw he
      obtain ⟨h4, h5⟩ := dd_split (E := 101) (by decide) (by omega) (by omega) (hd2.symm.trans h3)
      exact ⟨by omega, by rw [h2, h4], h5⟩
    unfold g__ref02_Reader_Value_s_j4
    refine WP.iteE (fun h => by dsimp only at h; omega) (fun _ => ?_)
    unfold g__ref02_Reader_Value_s_j6
    refine WP.iteD (fun hbig => ?_) (fun hbig => ?_)
    · unfold g__ref02_Reader_Value_s_j5
      refine WP.ckI (by omega) ?_
      unfold g__ref02_Reader_Value_s_j3
      refine WP.ret (badR _ _ (by omega) (by omega) fun w a hw he => ?_)
      have := (same w a hw he).1; omega
    · unfold g__ref02_Reader_Value_s_j5
      refine WP.ckI (by omega) ?_
      unfold g__ref02_Reader_Value_s_j3
      have hi : i64 ((u : Nat) : Int) := ⟨by omega, by omega⟩
      rw [i64_keep hi]
      obtain ⟨r1, r2, r3⟩ := rint_rng hi
      refine WP.ret ⟨at_ + 1 + (Lib.decDigits u).length + 1, by simp only; omega, by omega, rfl, by omega, fun _ => ⟨by omega, by omega, r1, by simp only [r2]; omega, by simp only [r3]; omega⟩, fun w b hw he => ?_⟩
      obtain ⟨_, h2, h3⟩ := same w b hw he
      exact ⟨h2.symm, rfl, hdrop.trans h3⟩
  · intro a hd2; exact empt false (.inr ⟨a, hd2⟩)
  · intro hno i h1 h2
    unfold g__ref02_Reader_Value_s_j3
    refine WP.ret (badR _ _ (by omega) (by omega) fun w a hw he => ?_)
    obtain ⟨u, h3, _, h4⟩ := intv w a hw he
    exact hno u a (by omega) h4
end Go.Proofs.YtimalbkjflfdoaaDoor

set_option maxRecDepth 100000
set_option maxHeartbeats 1000000
namespace Go.Proofs.YtimalbkjflfdoaaDoor
open Go.DL
theorem i64_neg {u : Nat} (h1 : 1 ≤ u) (h2 : u ≤ 9223372036854775808) : IntKind.i64.wrap ((IntKind.i64.wrap (0 - (IntKind.i64.wrap (IntKind.u64.wrap (((u : Nat) : Int) - 1))))) - 1) = -((u : Nat) : Int) := by
  rw [u64w (by omega) (by omega), i64_keep (x := ((u : Nat) : Int) - 1) ⟨by omega, by omega⟩, i64_keep (x := 0 - (((u : Nat) : Int) - 1)) ⟨by omega, by omega⟩, i64_keep ⟨by omega, by omega⟩]
  omega
theorem rint_neg {B : List UInt8} {at_ d : Nat} (hd : d ≤ 16) (hB : B.length ≤ 100000) (h : at_ + 2 ≤ B.length) (hx : B.drop at_ = 105 :: 45 :: B.drop (at_ + 2)) :
    WP (loopO (g__ref02_Reader_Value_s_l16 ⟨B, at_, false⟩) (0, ((at_ : Nat) : Int) + 1 + 1, false)) (RRes d B at_) := by
  rw [value_l16_num]
  dsimp only
  -- an integer there
  have intv : ∀ w a, good d w → B.drop at_ = enc w ++ a → ∃ u : Nat, 1 ≤ u ∧ u ≤ 9223372036854775808 ∧ w = .mk 1 (-((u : Nat) : Int)) [] [] [] ∧ B.drop (at_ + 2) = Lib.decDigits u ++ 101 :: a := by
    intro w a hw e
    have hk : w.k = 1 := by
      obtain ⟨c, q, e1, c1⟩ := enc_first hw.1
      rw [e1, hx, List.cons_append, List.cons.injEq] at e
      rcases c1 with ⟨h, _⟩ | ⟨_, h⟩ | ⟨_, h⟩ | ⟨_, h⟩
      · exact h
      · rw [← e.1] at h; exact absurd h (by decide)
      · rw [← e.1] at h; exact absurd h (by decide)
      · rw [← e.1] at h; exact absurd h (by decide)
    cases w with
    | mk k n s l ks =>
      simp only [Val.k] at hk
      subst hk
      have h1 := hw.2.1
      simp only [ints] at h1
      obtain ⟨rfl, rfl, rfl⟩ := wf1 hw.1
      simp only [enc, if_true, List.cons_append, List.append_assoc, List.nil_append] at e
      rw [hx, List.cons.injEq] at e
      have hn : n < 0 := by
        rcases Int.lt_or_le n 0 with h | h
        · exact h
        · have e2 := e.2
          unfold Lib.itoa at e2
          rw [if_neg (by omega)] at e2
          obtain ⟨c, r, e3, hc⟩ := decDigits_cons n.toNat
          rw [e3, List.cons_append, List.cons.injEq] at e2
          rw [← e2.1] at hc; exact absurd hc (by decide)
      have e2 := e.2
      unfold Lib.itoa at e2
      rw [if_pos hn, List.cons_append, List.cons.injEq] at e2
      refine ⟨(-n).toNat, by omega, by have := h1.1.1; omega, by rw [Int.toNat_of_nonneg (by omega)]; simp, ?_⟩
      rw [show (-n).toNat = n.natAbs by omega]; exact e2.2
  have badR : ∀ (v : Val) (e : Int), ((at_ : Nat) : Int) ≤ e → e ≤ ((B.length : Nat) : Int) + 1 → (∀ w a, good d w → B.drop at_ = enc w ++ a → False) → RRes d B at_ (.inl (v, ⟨B, e, true⟩)) := by
    intro v e h1 h2 hno
    exact ⟨e.toNat, by simp only; omega, by omega, rfl, by omega, (fun h => by cases h), fun w a hw he => (hno w a hw he).elim⟩
  have j12bad : ∀ (u : Int) (e : Int) (b : Bool), (u = 0 ∨ b = true) → ((at_ : Nat) : Int) ≤ e → e ≤ ((B.length : Nat) : Int) + 1 → (∀ w a, good d w → B.drop at_ = enc w ++ a → False) → WP (g__ref02_Reader_Value_s_j12 ⟨B, at_, false⟩ u e b) (RRes d B at_) := by
    intro u e b hub h1 h2 hno
    unfold g__ref02_Reader_Value_s_j12
    refine WP.iteE (fun _ => WP.ret (badR _ _ h1 h2 hno)) (fun hu => ?_)
    rcases hub with h | rfl
    · exact absurd h hu
    · exact WP.ret (badR _ _ h1 h2 hno)
  rw [show ((at_ : Nat) : Int) + 1 + 1 = ((at_ + 2 : Nat) : Int) by omega] at *
  refine numL_eq (E := 101) rfl (by decide) hB h ?_ ?_ ?_
  · intro u a hu hd2
    have hl := drop_len h hd2
    rw [List.length_cons] at hl
    have hD : 1 ≤ (Lib.decDigits u).length := by
      obtain ⟨c, r, e, _⟩ := decDigits_cons u
      rw [e]; simp
    have hdrop : B.drop (at_ + 2 + (Lib.decDigits u).length + 1) = a := by
      have := hl.2
      rw [← List.drop_drop, this]; rfl
    have same : ∀ w b, good d w → B.drop at_ = enc w ++ b → 1 ≤ u ∧ u ≤ 9223372036854775808 ∧ w = .mk 1 (-((u : Nat) : Int)) [] [] [] ∧ a = b := by
      intro w b hw he
      obtain ⟨u2, h0, h1, h2, h3⟩ := intv w b hw he
      obtain ⟨h4, h5⟩ := dd_split (E := 101) (by decide) (by omega) (by omega) (hd2.symm.trans h3)
      exact ⟨by omega, by omega, by rw [h2, h4], h5⟩
    unfold g__ref02_Reader_Value_s_j13
    refine WP.iteE (fun h => by dsimp only at h; omega) (fun _ => ?_)
    unfold g__ref02_Reader_Value_s_j15
    refine WP.iteD (fun hbig => ?_) (fun hbig => ?_)
    · unfold g__ref02_Reader_Value_s_j14
      refine WP.ckI (by omega) (j12bad _ _ _ (.inr rfl) (by omega) (by omega) fun w a hw he => ?_)
      have := (same w a hw he).2.1; omega
    · unfold g__ref02_Reader_Value_s_j14
      refine WP.ckI (by omega) ?_
      by_cases hu0 : u = 0
      · exact j12bad _ _ _ (.inl (by omega)) (by omega) (by omega) fun w a hw he => by have := (same w a hw he).1; omega
      unfold g__ref02_Reader_Value_s_j12
      refine WP.iteE (fun h => absurd h (by omega)) (fun _ => ?_)
      rw [i64_neg (by omega) (by omega)]
      have hi : i64 (-((u : Nat) : Int)) := ⟨by omega, by omega⟩
      obtain ⟨r1, r2, r3⟩ := rint_rng hi
      refine WP.ret ⟨at_ + 2 + (Lib.decDigits u).length + 1, by simp only; omega, by omega, rfl, by omega, fun _ => ⟨by omega, by omega, r1, by simp only [r2]; omega, by simp only [r3]; omega⟩, fun w b hw he => ?_⟩
      obtain ⟨_, _, h2, h3⟩ := same w b hw he
      exact ⟨h2.symm, rfl, hdrop.trans h3⟩
  · intro a hd2
    have hl := drop_len (D := []) h hd2
    rw [List.length_cons, List.length_nil] at hl
    unfold g__ref02_Reader_Value_s_j13
    refine WP.iteE (fun _ => ?_) (fun h => absurd (by dsimp only; omega) h)
    unfold g__ref02_Reader_Value_s_j15
    refine WP.iteT ?_
    unfold g__ref02_Reader_Value_s_j14
    refine WP.ckI (by omega) (j12bad _ _ _ (.inr rfl) (by omega) (by omega) fun w a hw he => ?_)
    obtain ⟨u, _, _, _, h3⟩ := intv w a hw he
    obtain ⟨c, r, e, hc⟩ := decDigits_cons u
    rw [e, List.cons_append, hd2, List.cons.injEq] at h3
    rw [← h3.1] at hc
    exact absurd hc (by decide)
  · intro hno i h1 h2
    refine j12bad _ _ _ (.inr rfl) (by omega) (by omega) fun w a hw he => ?_
    obtain ⟨u, _, h3, _, h4⟩ := intv w a hw he
    exact hno u a (by omega) h4
theorem rval_bad {rc : Assizeref02Reader → Int → Option ((Val × Assizeref02Reader) ⊕ Unit)} {B : List UInt8} {at_ : Nat} {d : Int} : g__ref02_Reader_Value_s rc ⟨B, at_, true⟩ d = some (.inl (zV, ⟨B, at_, true⟩)) := by
  refine WP.eq ?_
  unfold g__ref02_Reader_Value_s
  have go : ∀ x : Int, WP (g__ref02_Reader_Value_s_j1 ⟨B, at_, true⟩ d rc x true) fun y => y = .inl (zV, ⟨B, at_, true⟩) := by
    intro x
    unfold g__ref02_Reader_Value_s_j1
    exact WP.iteT (WP.ret rfl)
  refine WP.iteD (fun h => ?_) (fun h => go 0)
  exact WP.gt ⟨by simp only; omega, h⟩ fun x _ => go _
end Go.Proofs.YtimalbkjflfdoaaDoor

set_option maxRecDepth 100000
set_option maxHeartbeats 1000000
namespace Go.Proofs.YtimalbkjflfdoaaDoor
open Go.DL
def wgt (L : List Val) (K : List (List UInt8)) : Nat := K.length + (K.map fun k => k.length / 50).sum + cntL L
def Fits (kd : Int) (B : List UInt8) (a0 d : Nat) (L : List Val) (K : List (List UInt8)) (b : Bool) (e : Nat) : Prop :=
  ∀ w a, good d w → w.k = kd → B.drop a0 = enc w ++ a → b = false ∧ ∃ l2 ks2, w.l = L ++ l2 ∧ w.ks = K ++ ks2 ∧ B.drop e = body kd ks2 l2 ++ 101 :: a ∧ (kd = 4 → ks2.length = l2.length) ∧ (kd = 3 → ks2 = [])
def LInv (kd : Int) (B : List UInt8) (a0 d : Nat) (p : List UInt8 × Int × Bool × List Val × List (List UInt8)) : Prop :=
  ∃ (e : Nat), p.1 = B ∧ p.2.1 = e ∧ a0 + 1 ≤ e ∧ e ≤ B.length + 4 * (19 - d) + 2 ∧
    (p.2.2.1 = false → d < 16 ∧ e ≤ B.length ∧ (∀ x ∈ p.2.2.2.1, rng x ∧ hgt x ≤ 19 - d) ∧ (∀ k ∈ p.2.2.2.2, k.length ≤ B.length) ∧ wgt p.2.2.2.1 p.2.2.2.2 ≤ e - (a0 + 1)) ∧
    Fits kd B a0 d p.2.2.2.1 p.2.2.2.2 p.2.2.1 e
theorem cntL_ge (L : List Val) : L.length ≤ cntL L := by
  induction L with
  | nil => simp
  | cons v L ih =>
    have : 1 ≤ cnt v := by cases v; simp only [cnt]; omega
    simp only [cntL, List.length_cons]; omega
theorem body_stop {kd : Int} (hk : kd = 3 ∨ kd = 4) {ks : List (List UInt8)} {l : List Val} {a r : List UInt8} (hw : ∀ x ∈ l, wf x = true) (h : 101 :: r = body kd ks l ++ 101 :: a) : l = [] ∧ r = a := by
  cases l with
  | nil =>
    rcases hk with rfl | rfl
    · simp [body, encL] at h; exact ⟨rfl, h⟩
    · simp [body, encD] at h; exact ⟨rfl, h⟩
  | cons x l =>
    exfalso
    rcases hk with rfl | rfl
    · simp only [body, show ¬ (3 : Int) = 4 by decide, if_false, encL, List.append_assoc] at h
      exact first_ne (hw x List.mem_cons_self) h.symm
    · simp only [body, if_true, encD, List.append_assoc] at h
      exact txt_ne h.symm
theorem rlist_loop {rc : Assizeref02Reader → Int → Option ((Val × Assizeref02Reader) ⊕ Unit)} {kd c : Int} (hk : kd = 3 ∨ kd = 4) (hc : c = if kd = 4 then 100 else 108) {B : List UInt8} {at_ d : Nat} (hd : d ≤ 16) (hB : B.length ≤ 100000) (h : at_ + 1 ≤ B.length)
    (hx : B.drop at_ = (if kd = 4 then 100 else 108) :: B.drop (at_ + 1))
    (hrc : d < 16 → ∀ e : Nat, e ≤ B.length → WP (rc ⟨B, e, false⟩ ((d : Int) + 1)) (RRes (d + 1) B e))
    (hrb : d < 16 → ∀ e : Nat, rc ⟨B, e, true⟩ ((d : Int) + 1) = some (.inl (zV, ⟨B, e, true⟩))) :
    WP (loopO (g__ref02_Reader_Value_s_l24 c (d : Int) rc kd) (B, ((at_ : Nat) : Int) + 1, ((d : Int) == 16), ([] : List Val), ([] : List (List UInt8)))) (RRes d B at_) := by
  have first : ∀ w a, good d w → B.drop at_ = enc w ++ a → w.k = kd := by
    intro w a hw he
    obtain ⟨c, q, e1, c1⟩ := enc_first hw.1
    rw [e1, hx, List.cons_append, List.cons.injEq] at he
    obtain ⟨he, _⟩ := he
    rcases hk with rfl | rfl <;> simp at he <;> subst he <;> rcases c1 with ⟨_, h⟩ | ⟨_, h, h2⟩ | ⟨h, h2⟩ | ⟨h, h2⟩
    · exact absurd h (by decide)
    · simp at h2
    · exact h
    · exact absurd h2 (by decide)
    · exact absurd h (by decide)
    · simp at h2
    · exact absurd h2 (by decide)
    · exact h
  refine WP.loop (LInv kd B at_ d) (fun p => if p.2.2.1 = true then 0 else B.length + 2 - p.2.1.toNat) ?_ ?_
  rotate_left
  · have d0 : ((d : Int) == 16) = false → d < 16 := fun hb => by
      have : ¬ ((d : Int) = 16) := by simpa using hb
      omega
    refine ⟨at_ + 1, rfl, by simp only; omega, by omega, by omega, fun hb => ⟨d0 hb, by omega, by simp, by simp, by simp [wgt, cntL]⟩, fun w a hw hwk he => ?_⟩
    cases w with
    | mk k n s l ks =>
      simp only [Val.k] at hwk
      subst hwk
      obtain ⟨rfl, rfl, g1, g2, g3⟩ := list_good hk hw
      rw [enc_body hk, hx, List.cons_append, List.cons.injEq] at he
      refine ⟨by simp; omega, l, ks, rfl, rfl, ?_, fun h => (g1.1 h).1, fun h => g1.2 h⟩
      rw [he.2]; simp
  rintro ⟨B', e', bad, L, K⟩ ⟨e, hB', he', i1, i2, i3, i4⟩
  simp only at i3 i4 i2 hB' he'
  subst B'
  subst e'
  -- the end
  have fin : (bad = false → ∃ r, B.drop e = 101 :: r) → WP (g__ref02_Reader_Value_s_j23 kd B ((e : Nat) : Int) bad L K) (RRes d B at_) := by
    intro hb
    unfold g__ref02_Reader_Value_s_j23
    refine WP.ckI (by omega) (WP.ret ⟨e + 1, by simp only; omega, by omega, rfl, by omega, fun hbf => ?_, fun w a hw he => ?_⟩)
    · simp only at hbf
      obtain ⟨r, h2⟩ := hb hbf
      obtain ⟨_, j1, j2, j3, j4⟩ := i3 hbf
      have hl := drop_len (D := []) j1 h2
      rw [List.length_cons, List.length_nil] at hl
      have hLl := cntL_ge L
      unfold wgt at j4
      refine ⟨by omega, by omega, ?_, ?_, ?_⟩
      · simp only [rng, rngL_iff]
        refine ⟨⟨by omega, by omega⟩, ⟨by omega, by omega⟩, by simp, by omega, by omega, fun k hk => ?_, fun x hx => (j2 x hx).1⟩
        have := j3 k hk; omega
      · simp only [hgt]
        have : hgtL L ≤ 19 - d := hgtL_le.2 fun x hx => (j2 x hx).2
        omega
      · simp only [cnt, List.length_nil]; omega
    · obtain ⟨h1, l2, ks2, h2, h3, h4, h5, h6⟩ := i4 w a hw (first w a hw he) he
      cases w with
      | mk k n s l ks =>
        simp only [Val.l, Val.ks] at h2 h3
        have hwk := first _ a hw he
        simp only [Val.k] at hwk
        subst hwk
        obtain ⟨rfl, rfl, g1, g2, g3⟩ := list_good hk hw
        obtain ⟨r, h7⟩ := hb h1
        rw [h7] at h4
        obtain ⟨rfl, h8⟩ := body_stop hk (fun x hx => (g3 x (by rw [h2]; exact List.mem_append_right _ hx)).1) h4
        have hk2 : ks2 = [] := by
          rcases hk with rfl | rfl
          · exact h6 rfl
          · exact List.eq_nil_of_length_eq_zero (by rw [h5 rfl]; rfl)
        rw [h2, h3, hk2, List.append_nil, List.append_nil]
        refine ⟨rfl, h1, ?_⟩
        rw [← List.drop_drop, h7, ← h8]; rfl
  cases bad with
  | true =>
    unfold g__ref02_Reader_Value_s_l24
    dsimp only
    refine WP.iteNb (WP.iteT ?_)
    unfold g__ref02_Reader_Value_s_j25
    exact WP.iteF (WP.up (fin fun h => by cases h))
  | false =>
  obtain ⟨hd16, j1, j2, j3, j4⟩ := i3 rfl
  have hLl := cntL_ge L
  unfold wgt at j4
  -- one more element behind K2
  have elem : ∀ (K2 : List (List UInt8)) (e2 : Nat) (b2 : Bool), e ≤ e2 → e2 ≤ B.length + 1 → (b2 = false → e2 ≤ B.length ∧ (∀ k ∈ K2, k.length ≤ B.length) ∧ wgt L K2 ≤ e2 - (at_ + 1)) →
      (∀ w a, good d w → w.k = kd → B.drop at_ = enc w ++ a → b2 = false ∧ ∃ x l2 ks2, w.l = L ++ x :: l2 ∧ w.ks = K2 ++ ks2 ∧ B.drop e2 = enc x ++ (body kd ks2 l2 ++ 101 :: a) ∧ (kd = 4 → ks2.length = l2.length) ∧ (kd = 3 → ks2 = [])) →
      WP (g__ref02_Reader_Value_s_j26 (d : Int) rc L c kd B ((e2 : Nat) : Int) b2 K2) (Rnd (LInv kd B at_ d) (fun p => if p.2.2.1 = true then 0 else B.length + 2 - p.2.1.toNat) (if false = true then 0 else B.length + 2 - (((e : Nat) : Int)).toNat) (RRes d B at_)) := by
    intro K2 e2 b2 g1 g2 g3 g4
    unfold g__ref02_Reader_Value_s_j26
    refine WP.ckI (by omega) ?_
    cases b2 with
    | true =>
      refine WP.bdP (hrb hd16 e2) (WP.ck (by simp only [List.length_cons, List.length_nil]; omega) (WP.ret ⟨⟨e2, rfl, rfl, by omega, by omega, (fun h => by cases h), fun w a hw hwk he => ?_⟩, ?_⟩))
      · have := (g4 w a hw hwk he).1; cases this
      · simp; omega
    | false =>
      obtain ⟨k1, k2, k3⟩ := g3 rfl
      obtain ⟨y, hy, hV⟩ := hrc hd16 e2 k1
      cases y with
      | inr u => exact hV.elim
      | inl y =>
        obtain ⟨v, q⟩ := y
        obtain ⟨e3, v1, v2, v3, v4, v5, v6⟩ := hV
        obtain ⟨qB, qA, qb⟩ := q
        simp only at v1 v3 v5 v6
        subst v1
        subst v3
        refine WP.bdP hy (WP.ck (by simp only [List.length_cons, List.length_nil]; omega) (WP.ret ⟨⟨e3, rfl, rfl, by omega, by omega, fun hb => ?_, fun w a hw hwk he => ?_⟩, ?_⟩))
        · simp only at hb
          obtain ⟨u1, u2, u3, u4, u5⟩ := v5 hb
          unfold wgt at k3
          refine ⟨hd16, u2, fun x hx => ?_, k2, ?_⟩
          · rcases List.mem_append.1 hx with hx | hx
            · exact j2 x hx
            · rw [List.mem_singleton] at hx
              subst hx
              exact ⟨u3, by omega⟩
          · simp only [wgt, cntL_append, cntL]; omega
        · obtain ⟨_, x, l2, ks2, w1, w2, w3, w4, w5⟩ := g4 w a hw hwk he
          have hgx : good (d + 1) x := by
            cases w with
            | mk k n s l ks =>
              simp only [Val.k] at hwk
              subst hwk
              simp only [Val.l] at w1
              obtain ⟨_, _, _, _, g3⟩ := list_good hk hw
              exact g3 x (by rw [w1]; simp)
          obtain ⟨m1, m2, m3⟩ := v6 x _ hgx w3
          refine ⟨m2, l2, ks2, by rw [w1, m1]; simp, w2, m3, w4, w5⟩
        · simp only
          split
          · simp; omega
          · rename_i hb
            have := v5 (by simpa using hb)
            simp; omega
  -- what comes next is no end
  have next : ∀ b2, (b2 = false → ∀ r, B.drop e ≠ 101 :: r) → (b2 = true → B.drop e = []) → WP (g__ref02_Reader_Value_s_j25 c B ((e : Nat) : Int) K (d : Int) rc L kd true b2) (Rnd (LInv kd B at_ d) (fun p => if p.2.2.1 = true then 0 else B.length + 2 - p.2.1.toNat) (if false = true then 0 else B.length + 2 - (((e : Nat) : Int)).toNat) (RRes d B at_)) := by
    intro b2 hb1 hb2
    have some_ : ∀ w a, good d w → w.k = kd → B.drop at_ = enc w ++ a → b2 = false ∧ ∃ x l2 ks2, w.l = L ++ x :: l2 ∧ w.ks = K ++ ks2 ∧ B.drop e = body kd ks2 (x :: l2) ++ 101 :: a ∧ (kd = 4 → ks2.length = l2.length + 1) ∧ (kd = 3 → ks2 = []) := by
      intro w a hw hwk he
      obtain ⟨_, l2, ks2, w1, w2, w3, w4, w5⟩ := i4 w a hw hwk he
      have hb : b2 = false := by
        cases b2 with
        | false => rfl
        | true => rw [hb2 rfl] at w3; simp at w3
      refine ⟨hb, ?_⟩
      cases l2 with
      | nil =>
        exfalso
        refine hb1 hb a ?_
        rw [w3]
        rcases hk with rfl | rfl <;> simp [body, encL, encD]
      | cons x l2 => exact ⟨x, l2, ks2, w1, w2, w3, fun h => by have := w4 h; simpa using this, w5⟩
    unfold g__ref02_Reader_Value_s_j25
    refine WP.iteT ?_
    rcases hk with rfl | rfl
    · simp only [show ¬ (3 : Int) = 4 by decide, if_false] at hc
      refine WP.iteE (fun h => by omega) (fun _ => ?_)
      refine elem K e b2 (Nat.le_refl e) (by omega) (fun _ => ⟨j1, j3, by unfold wgt; omega⟩) fun w a hw hwk he => ?_
      obtain ⟨hb, x, l2, ks2, w1, w2, w3, w4, w5⟩ := some_ w a hw hwk he
      refine ⟨hb, x, l2, ks2, w1, w2, ?_, (fun h => by cases h), w5⟩
      rw [w3]; simp [body, encL]
    · simp only [if_true] at hc
      refine WP.iteE (fun _ => ?_) (fun h => absurd hc h)
      cases b2 with
      | true =>
        refine WP.bdP (rtext_bad (by omega)) (WP.ck (by simp only [List.length_cons, List.length_nil]; omega) ?_)
        refine elem _ (e + 1) true (by omega) (by omega) (fun h => by cases h) fun w a hw hwk he => ?_
        have := (some_ w a hw hwk he).1; cases this
      | false =>
        obtain ⟨y, hy, hV⟩ := rtext_at hB j1
        cases y with
        | inr u => exact hV.elim
        | inl y =>
          obtain ⟨s, qB, qA, qb⟩ := y
          obtain ⟨e2, v1, v2, v3, v4, v5, v6⟩ := hV
          simp only at v1 v3 v5 v6
          subst v1
          subst v3
          refine WP.bdP hy (WP.ck (by simp only [List.length_cons, List.length_nil]; omega) ?_)
          refine elem _ e2 qb v2 (by omega) (fun hb => ⟨v4, fun k hk => ?_, ?_⟩) fun w a hw hwk he => ?_
          · have := v5 hb
            rcases List.mem_append.1 hk with hk | hk
            · exact j3 k hk
            · rw [List.mem_singleton] at hk
              subst hk; omega
          · have := v5 hb
            simp only [wgt, List.length_append, List.map_append, List.sum_append, List.map_cons, List.map_nil, List.sum_cons, List.sum_nil, List.length_cons, List.length_nil]
            omega
          · obtain ⟨_, x, l2, ks2, w1, w2, w3, w4, w5⟩ := some_ w a hw hwk he
            have h4 := w4 rfl
            cases ks2 with
            | nil => simp at h4
            | cons k ks2 =>
              simp only [body, if_true, encD, List.headD_cons, List.tail_cons, List.append_assoc] at w3
              obtain ⟨m1, m2, m3⟩ := v6 k _ w3
              refine ⟨m2, x, l2, ks2, w1, by rw [w2, m1]; simp, ?_, fun _ => by simpa using h4, fun h => by cases h⟩
              rw [m3]; simp [body]
  unfold g__ref02_Reader_Value_s_l24
  dsimp only
  refine WP.iteNb (WP.iteF (WP.iteD (fun hlt => ?_) (fun hlt => ?_)))
  · have hlt' : e < B.length := by omega
    refine WP.gt ⟨by omega, by omega⟩ fun x hx2 => ?_
    have hx' : B[e]? = some x := by rw [Int.toNat_natCast] at hx2; exact hx2
    have hdrop : B.drop e = x :: B.drop (e + 1) := by
      rw [List.drop_eq_getElem_cons hlt']
      rw [List.getElem?_eq_getElem hlt'] at hx'
      cases hx'; rfl
    unfold g__ref02_Reader_Value_s_j27
    by_cases hx101 : x = 101
    · subst hx101
      unfold g__ref02_Reader_Value_s_j25
      refine WP.iteN (fun h => absurd rfl h) (fun _ => WP.up (fin fun _ => ⟨_, hdrop⟩))
    · have : ((((x.toNat : Nat) : Int) != 101)) = true := by
        rw [bne_iff_ne]
        intro h
        exact hx101 (UInt8.toNat_inj.1 (show x.toNat = 101 by omega))
      rw [this]
      refine next false (fun _ r h => ?_) (fun h => by cases h)
      rw [hdrop, List.cons.injEq] at h
      exact hx101 h.1
  · unfold g__ref02_Reader_Value_s_j27
    exact next true (fun h => by cases h) fun _ => List.drop_eq_nil_iff.2 (by omega)
end Go.Proofs.YtimalbkjflfdoaaDoor

set_option maxRecDepth 100000
set_option maxHeartbeats 1000000
namespace Go.Proofs.YtimalbkjflfdoaaDoor
open Go.DL
theorem drop_at {B : List UInt8} {i : Nat} {x : UInt8} {j : Int} (hj : j.toNat = i) (h : B[j.toNat]? = some x) : B.drop i = x :: B.drop (i + 1) := by
  rw [hj] at h
  have hl : i < B.length := by
    rcases Nat.lt_or_ge i B.length with h2 | h2
    · exact h2
    · rw [List.getElem?_eq_none h2] at h; cases h
  rw [List.drop_eq_getElem_cons hl]
  rw [List.getElem?_eq_getElem hl] at h
  cases h; rfl
theorem rval_s {rc : Assizeref02Reader → Int → Option ((Val × Assizeref02Reader) ⊕ Unit)} {B : List UInt8} {at_ d : Nat} (hd : d ≤ 16) (hB : B.length ≤ 100000) (h : at_ ≤ B.length)
    (hrc : d < 16 → ∀ e : Nat, e ≤ B.length → WP (rc ⟨B, e, false⟩ ((d : Int) + 1)) (RRes (d + 1) B e))
    (hrb : d < 16 → ∀ e : Nat, rc ⟨B, e, true⟩ ((d : Int) + 1) = some (.inl (zV, ⟨B, e, true⟩))) :
    WP (g__ref02_Reader_Value_s rc ⟨B, at_, false⟩ (d : Int)) (RRes d B at_) := by
  unfold g__ref02_Reader_Value_s
  dsimp only
  refine WP.iteD (fun hlt => ?_) (fun hlt => ?_)
  · refine WP.gt ⟨by omega, hlt⟩ fun x hx => ?_
    have hdrop := drop_at (i := at_) (by omega) hx
    have first : ∀ w a, good d w → B.drop at_ = enc w ++ a → (w.k = 1 ∧ x = 105) ∨ (w.k = 2 ∧ 48 ≤ x.toNat ∧ x.toNat ≤ 57) ∨ (w.k = 3 ∧ x = 108) ∨ (w.k = 4 ∧ x = 100) := by
      intro w a hw e
      obtain ⟨c, q, e1, c1⟩ := enc_first hw.1
      rw [hdrop, e1, List.cons_append, List.cons.injEq] at e
      rw [e.1]; exact c1
    unfold g__ref02_Reader_Value_s_j1
    refine WP.iteF (WP.iteE (fun h105 => ?_) (fun h105 => ?_))
    · have hx105 : x = 105 := UInt8.toNat_inj.1 (show x.toNat = 105 by omega)
      subst hx105
      dsimp only
      refine WP.ckI (by omega) (WP.iteD (fun hlt2 => ?_) (fun hlt2 => ?_))
      · refine WP.gt ⟨by omega, hlt2⟩ fun y hy => ?_
        have hdrop2 := drop_at (i := at_ + 1) (by omega) hy
        unfold g__ref02_Reader_Value_s_j2
        refine WP.iteN (fun h45 => ?_) (fun h45 => WP.ckI (by dsimp only; omega) ?_)
        · refine rint_pos hd hB (by omega) hdrop (.inl rfl) fun r hr => ?_
          rw [hdrop2, List.cons.injEq] at hr
          exact h45 (by rw [hr.1]; rfl)
        · have hy45 : y = 45 := UInt8.toNat_inj.1 (show y.toNat = 45 by omega)
          subst hy45
          exact rint_neg hd hB (by omega) (by rw [hdrop, hdrop2])
      · unfold g__ref02_Reader_Value_s_j2
        have hnil : B.drop (at_ + 1) = [] := List.drop_eq_nil_iff.2 (by omega)
        refine WP.iteN (fun h45 => ?_) (fun h45 => by cases h45)
        refine rint_pos hd hB (by omega) hdrop (.inr hnil) fun r hr => ?_
        rw [hnil] at hr; cases hr
    have hlt3 : at_ + 1 ≤ B.length := by omega
    have lists : ∀ kd : Int, (kd = 3 ∨ kd = 4) → x = (if kd = 4 then 100 else 108) → WP (g__ref02_Reader_Value_s_j22 ((x.toNat : Nat) : Int) (d : Int) rc ⟨B, at_, false⟩ false kd) (RRes d B at_) := by
      intro kd hk hxk
      unfold g__ref02_Reader_Value_s_j22
      refine rlist_loop hk ?_ hd hB hlt3 (by rw [hdrop, hxk]) hrc hrb
      rw [hxk]
      rcases hk with rfl | rfl <;> decide
    refine WP.iteN (fun h108 => ?_) (fun h108 => ?_)
    · unfold g__ref02_Reader_Value_s_j21
      refine WP.iteN (fun h100 => ?_) (fun h100 => ?_)
      · obtain ⟨y, hy, hV⟩ := rtext_at hB h
        cases y with
        | inr u => exact hV.elim
        | inl y =>
          obtain ⟨s, qB, qA, qb⟩ := y
          obtain ⟨e2, v1, v2, v3, v4, v5, v6⟩ := hV
          simp only at v1 v3 v5 v6
          subst v1
          subst v3
          refine WP.bdP hy (WP.ret ⟨e2, rfl, v2, rfl, by omega, fun hb => ?_, fun w a hw he => ?_⟩)
          · have := v5 hb
            refine ⟨by omega, v4, ?_, ?_, ?_⟩
            · simp only [rng, rngL]
              exact ⟨⟨by omega, by omega⟩, ⟨by omega, by omega⟩, by omega, by simp, by simp, by simp, trivial⟩
            · simp only [hgt, hgtL]; omega
            · simp only [cnt, cntL, List.length_nil, List.map_nil, List.sum_nil]; omega
          · have hk : w.k = 2 := by
              rcases first w a hw he with ⟨_, h⟩ | ⟨h, _⟩ | ⟨_, h⟩ | ⟨_, h⟩
              · rw [h] at h105; exact absurd rfl h105
              · exact h
              · rw [h] at h108; exact absurd rfl h108
              · rw [h] at h100; exact absurd rfl h100
            cases w with
            | mk k n s2 l ks =>
              simp only [Val.k] at hk
              subst hk
              obtain ⟨rfl, rfl, rfl⟩ := wf2 hw.1
              simp (config := { decide := true }) only [enc, if_true, if_false] at he
              obtain ⟨m1, m2, m3⟩ := v6 s2 a he
              exact ⟨by simp only [m1], m2, m3⟩
      · have hx100 : x = 100 := UInt8.toNat_inj.1 (show x.toNat = 100 by omega)
        refine WP.ckI (by dsimp only; omega) (WP.iteE (fun _ => lists 4 (.inr rfl) hx100) (fun h => absurd h100 h))
    · have hx108 : x = 108 := UInt8.toNat_inj.1 (show x.toNat = 108 by omega)
      unfold g__ref02_Reader_Value_s_j21
      refine WP.iteF (WP.ckI (by dsimp only; omega) (WP.iteE (fun h => by omega) (fun _ => lists 3 (.inl rfl) hx108)))
  · unfold g__ref02_Reader_Value_s_j1
    refine WP.iteT (WP.ret ⟨at_, rfl, Nat.le_refl _, rfl, by omega, (fun h => by cases h), fun w a hw he => ?_⟩)
    have h1 := enc_pos hw.1
    have h2 := congrArg List.length he
    rw [List.length_drop, List.length_append] at h2
    omega
theorem rval_eq : ∀ (fu d : Nat), d ≤ 16 → 17 ≤ fu + d → ∀ {B : List UInt8} {at_ : Nat}, B.length ≤ 100000 → at_ ≤ B.length → WP (g__ref02_Reader_Value fu ⟨B, at_, false⟩ (d : Int)) (RRes d B at_)
  | 0, d, h1, h2, _, _, _, _ => by omega
  | fu + 1, d, h1, h2, B, at_, hB, h => by
    refine rval_s h1 hB h (fun hd e he => rval_eq fu (d + 1) (by omega) (by omega) hB he) fun hd e => ?_
    cases fu with
    | zero => omega
    | succ fu => exact rval_bad
theorem rdecode_eq {b : List UInt8} (hb : b.length ≤ 100000) : WP (g_ref02_Decode b) fun y => ∃ p, y = .inl p ∧ Dec02 b p := by
  obtain ⟨y, hy, hV⟩ := rval_eq 60 0 (by omega) (by omega) hb (Nat.zero_le b.length)
  cases y with
  | inr u => exact hV.elim
  | inl y =>
    obtain ⟨v, qB, qA, qb⟩ := y
    obtain ⟨e, v1, v2, v3, v4, v5, v6⟩ := hV
    simp only at v1 v3 v5 v6
    subst v1
    subst v3
    unfold g_ref02_Decode
    have none_ : ((∀ w, good 0 w → enc w = qB → v = w ∧ qb = false ∧ qB.drop e = [] → False)) → Dec02 qB (zV, 20) := fun hno => .inr ⟨fun w hw he => hno w hw he (v6 w [] hw (by rw [List.append_nil, List.drop_zero]; exact he.symm)), rfl⟩
    refine WP.bdP hy ?_
    have fail : Dec02 qB (zV, 20) → ∀ r, WP (g_ref02_Decode_j1 r true) fun y => ∃ p, y = .inl p ∧ Dec02 qB p := by
      intro h r
      unfold g_ref02_Decode_j1
      exact WP.iteT (WP.ret ⟨_, rfl, h⟩)
    refine WP.iteB (fun hbad => fail (none_ fun w hw he h => ?_) _) (fun hbad => ?_)
    · simp only at hbad
      rw [h.2.1] at hbad; cases hbad
    simp only at hbad
    obtain ⟨u1, u2, u3, u4, u5⟩ := v5 hbad
    refine WP.iteN (fun hlen => fail (none_ fun w hw he h => ?_) _) (fun hlen => ?_)
    · have := congrArg List.length h.2.2
      rw [List.length_drop, List.length_nil] at this
      simp only at hlen; omega
    refine WP.bd (rCheck_eq (by simp only; omega) u3) (WP.iteN (fun hck => fail (none_ fun w hw he h => ?_) _) (fun hck => ?_))
    · refine hck (chk0.2 ?_)
      rw [h.1]; exact ⟨hw.1, by have := hw.2.2; omega⟩
    have hc : wf v = true ∧ dep v ≤ 16 := chk0.1 hck
    refine WP.bd (rencode_eq 60 v (by omega) ⟨hc.1, u3, by simp only [List.length_nil]; omega⟩) ?_
    unfold g_ref02_Decode_j1
    by_cases he : enc v = qB
    · rw [he]
      simp only [beq_self_eq_true, Bool.not_true]
      refine WP.iteF (WP.ret ⟨_, rfl, .inl ⟨⟨hc.1, ints_rng u3, hc.2⟩, he, rfl⟩⟩)
    · have : (!(enc v == qB)) = true := by simpa using he
      rw [this]
      refine WP.iteT (WP.ret ⟨_, rfl, none_ fun w hw hwe h => ?_⟩)
      exact he (by rw [h.1]; exact hwe)
end Go.Proofs.YtimalbkjflfdoaaDoor

set_option maxRecDepth 100000
set_option maxHeartbeats 1000000
namespace Go.Proofs.YtimalbkjflfdoaaDoor
open Go.DL
theorem dec_of {w : Val} {b : List UInt8} {p : Val × Int} (h : Dec02 b p) (hw : good 0 w) (he : enc w = b) (hl : b.length ≤ 1099511627776) : p = (w, 0) := by
  rcases h with ⟨h1, h2, h3⟩ | ⟨h1, _⟩
  · have := (enc_split (a := []) (b := []) (good_rng h1 (n := b.length) (by rw [h2]; omega) (by omega)) (good_rng hw (n := b.length) (by rw [he]; omega) (by omega)) h1.1 hw.1 (by rw [h2, he])).1
    obtain ⟨v, e⟩ := p
    simp only at this h3
    rw [this, h3]
  · exact absurd he (h1 w hw)
theorem dec_none {b : List UInt8} {p : Val × Int} (h : Dec02 b p) (hn : ∀ v, good 0 v → enc v ≠ b) : p = (zV, 20) := by
  rcases h with ⟨h1, h2, _⟩ | ⟨_, h⟩
  · exact absurd h2 (hn _ h1)
  · exact h
theorem itoa1 {n : Int} (h0 : 0 ≤ n) (h : n < 10) : Lib.itoa n = [UInt8.ofNat (48 + n.toNat)] := by
  unfold Lib.itoa; rw [if_neg (by omega), Lib.decDigits_one (by omega)]
theorem itoa_m3 : Lib.itoa (-3) = [45, 51] := by
  unfold Lib.itoa; rw [if_pos (by omega)]
  rw [show (Int.natAbs (-3)) = 3 by rfl, Lib.decDigits_one (by omega)]; rfl
theorem dd1 {n : Nat} (h : n < 10) : Lib.decDigits n = [UInt8.ofNat (48 + n)] := Lib.decDigits_one h
def vL : Val := .mk 3 0 [] [.mk 1 (-3) [] [] [], .mk 2 0 [97, 98] [] []] []
def vD : Val := .mk 4 0 [] [.mk 1 1 [] [] []] [[97]]
theorem vL_enc : enc vL = [108, 105, 45, 51, 101, 50, 58, 97, 98, 101] := by
  simp [vL, enc, encL, txt, itoa_m3, dd1]
theorem vD_enc : enc vD = [100, 49, 58, 97, 105, 49, 101, 101] := by
  have := itoa1 (n := 1) (by omega) (by omega)
  simp [vD, enc, encL, encD, txt, this, dd1]
theorem vL_good : good 0 vL := by
  refine ⟨by decide, ?_, by decide⟩
  simp [vL, ints, intsL, i64]
theorem vD_good : good 0 vD := by
  refine ⟨by decide, ?_, by decide⟩
  simp [vD, ints, intsL, i64]
theorem first1 {v : Val} {r : List UInt8} (h : good 0 v) (e : enc v = 105 :: r) : ∃ n, i64 n ∧ Lib.itoa n ++ [101] = r := by
  obtain ⟨c, q, e1, c1⟩ := enc_first h.1
  have hk : v.k = 1 := by
    rw [e1, List.cons.injEq] at e
    rcases c1 with ⟨h, _⟩ | ⟨_, h⟩ | ⟨_, h⟩ | ⟨_, h⟩
    · exact h
    · rw [e.1] at h; exact absurd h (by decide)
    · rw [e.1] at h; exact absurd h (by decide)
    · rw [e.1] at h; exact absurd h (by decide)
  cases v with
  | mk k n s l ks =>
    simp only [Val.k] at hk
    subst hk
    have h1 := h.2.1
    simp only [ints] at h1
    simp only [enc, if_true, List.cons.injEq, true_and] at e
    exact ⟨n, h1.1, e⟩
theorem no1 : ∀ v, good 0 v → enc v ≠ [105, 45, 48, 101] := by
  intro v h e
  obtain ⟨n, _, h1⟩ := first1 h e
  have h2 : Lib.itoa n = [45, 48] := List.append_cancel_right (bs := [101]) h1
  unfold Lib.itoa at h2
  split at h2
  · rw [List.cons.injEq] at h2
    have := dd_inj (u := n.natAbs) (v := 0) (by have := n.natAbs; rename_i h3 _; obtain ⟨a, b⟩ := ‹i64 n›; omega) (by omega) (by rw [h2.2, dd1 (by omega)]; rfl)
    omega
  · obtain ⟨c, r, hc, hc2⟩ := decDigits_cons n.toNat
    rw [hc, List.cons.injEq] at h2
    rw [h2.1] at hc2; exact absurd hc2 (by decide)
theorem no2 : ∀ v, good 0 v → enc v ≠ [105, 48, 51, 101] := by
  intro v h e
  obtain ⟨n, _, h1⟩ := first1 h e
  have h2 : Lib.itoa n = [48, 51] := List.append_cancel_right (bs := [101]) h1
  unfold Lib.itoa at h2
  split at h2
  · rw [List.cons.injEq] at h2; exact absurd h2.1 (by decide)
  · rcases Nat.eq_zero_or_pos n.toNat with h0 | h0
    · rw [h0, dd1 (by omega)] at h2; simp at h2
    · obtain ⟨c, r, hc, hc2⟩ := decDigits_head n.toNat h0
      rw [hc, List.cons.injEq] at h2
      rw [h2.1] at hc2; exact absurd hc2 (by decide)
theorem no3 : ∀ v, good 0 v → enc v ≠ [48, 49, 58, 97] := by
  intro v h e
  obtain ⟨c, q, e1, c1⟩ := enc_first h.1
  have hk : v.k = 2 := by
    rw [e1, List.cons.injEq] at e
    rcases c1 with ⟨_, h⟩ | ⟨h, _⟩ | ⟨_, h⟩ | ⟨_, h⟩
    · rw [e.1] at h; exact absurd h (by decide)
    · exact h
    · rw [e.1] at h; exact absurd h (by decide)
    · rw [e.1] at h; exact absurd h (by decide)
  cases v with
  | mk k n s l ks =>
    simp only [Val.k] at hk
    subst hk
    simp (config := { decide := true }) only [enc, if_true, if_false, txt] at e
    have no : ∀ u, (58 : UInt8) ∉ Lib.decDigits u := fun w hw => by have := decDigits_mem w 58 hw; exact absurd this (by decide)
    obtain ⟨h1, h2⟩ := split_at (c := 58) (a := Lib.decDigits s.length) (a' := [48, 49]) (b := s) (b' := [97]) (no _) (by decide) (by rw [e]; rfl)
    subst h2
    rw [show ([97] : List UInt8).length = 1 by rfl, dd1 (by omega)] at h1
    simp at h1
theorem no4 : ∀ v, good 0 v → enc v ≠ [100, 49, 58, 98, 105, 49, 101, 49, 58, 97, 105, 50, 101, 101] := by
  intro v h e
  obtain ⟨c, q, e1, c1⟩ := enc_first h.1
  have hk : v.k = 4 := by
    rw [e1, List.cons.injEq] at e
    rcases c1 with ⟨_, h⟩ | ⟨_, h⟩ | ⟨_, h⟩ | ⟨h, _⟩
    · rw [e.1] at h; exact absurd h (by decide)
    · rw [e.1] at h; exact absurd h (by decide)
    · rw [e.1] at h; exact absurd h (by decide)
    · exact h
  have hrg := good_rng h (n := 100) (by rw [e]; simp) (by omega)
  cases v with
  | mk k n s l ks =>
    simp only [Val.k] at hk
    subst hk
    obtain ⟨_, _, g1, g2, g3⟩ := wf4 h.1
    simp only [rng, rngL_iff] at hrg
    obtain ⟨_, _, _, _, _, r6, r7⟩ := hrg
    have i1 := itoa1 (n := 1) (by omega) (by omega)
    have i2 := itoa1 (n := 2) (by omega) (by omega)
    have eb : encD [[98], [97]] [.mk 1 1 [] [] [], .mk 1 2 [] [] []] ++ [101] = [49, 58, 98, 105, 49, 101, 49, 58, 97, 105, 50, 101, 101] := by
      simp [enc, encD, txt, i1, i2, dd1]
    simp (config := { decide := true }) only [enc, if_true, if_false, List.cons.injEq, true_and] at e
    rw [← eb] at e
    obtain ⟨ks2, l2, e2, e3, e4⟩ := encD_pre (K := [[98], [97]]) (L := [.mk 1 1 [] [] [], .mk 1 2 [] [] []]) (ks := ks) (l := l) (r := [101]) (a := [])
      (fun x hx => by
        simp only [List.mem_cons, List.not_mem_nil, or_false] at hx
        rcases hx with rfl | rfl
        · exact ⟨by decide, (rint_rng ⟨by omega, by omega⟩).1⟩
        · exact ⟨by decide, (rint_rng ⟨by omega, by omega⟩).1⟩)
      (fun x hx => ⟨g3 x hx, r7 x hx⟩) rfl g1 (by simp) r6 e.symm
    have hl2 : l2 = [] ∧ _ := body_stop (kd := 4) (.inr rfl) (ks := ks2) (l := l2) (a := []) (r := []) (fun x hx => g3 x (by rw [e3]; exact List.mem_append_right _ hx)) (by simpa [body] using e4)
    have hks2 : ks2 = [] := by
      have := congrArg List.length e2
      have h3 := congrArg List.length e3
      rw [hl2.1] at h3
      simp at this h3
      exact List.eq_nil_of_length_eq_zero (by omega)
    rw [e2, hks2] at g2
    exact absurd g2 (by decide)
theorem no5 : ∀ v, good 0 v → enc v ≠ [105, 51, 101, 32] := by
  intro v h e
  have i3 := itoa1 (n := 3) (by omega) (by omega)
  have e3 : enc (.mk 1 3 [] [] []) = [105, 51, 101] := by simp [enc, i3]
  have := enc_split (v := v) (w := .mk 1 3 [] [] []) (a := []) (b := [32]) (good_rng h (n := 100) (by rw [e]; simp) (by omega)) (rint_rng ⟨by omega, by omega⟩).1 h.1 (by decide) (by rw [e, e3]; rfl)
  exact absurd this.2 (by simp)
theorem no6 : ∀ v, good 0 v → enc v ≠ [] := by
  intro v h e
  have := enc_pos h.1
  rw [e] at this; simp at this
end Go.Proofs.YtimalbkjflfdoaaDoor

set_option maxRecDepth 100000
set_option maxHeartbeats 1000000
namespace Go.Proofs.YtimalbkjflfdoaaDoor
open Go.DL
theorem WP.bdPW {α ρ : Type} {Q : ρ → Prop} {o : Option (α ⊕ Unit)} {k : α → Option ρ} {z : Option ρ} (h : WP o fun y => ∃ x, y = .inl x ∧ WP (k x) Q) : WP (Go.DL.bdP o k z) Q := by
  obtain ⟨y, h1, x, rfl, h2⟩ := h
  rw [h1]; exact h2
theorem zV_ok : Ok zV := by
  refine ⟨?_, by decide, by decide⟩
  simp [zV, rng, rngL, i64]
theorem chk_zV : chk zV = 1 := by
  unfold chk; rw [if_neg (by decide)]
theorem dec_ok {b : List UInt8} {p : Val × Int} (h : Dec02 b p) (hb : b.length ≤ 50000000000) : Ok p.1 := by
  rcases h with ⟨h1, h2, _⟩ | ⟨_, h⟩
  · exact good_ok h1 (by rw [h2]; exact hb)
  · rw [h]; exact zV_ok
theorem dec_det {b : List UInt8} {p q : Val × Int} (h : Dec02 b p) (h2 : Dec02 b q) (hb : b.length ≤ 1099511627776) : p = q := by
  rcases h2 with ⟨g1, g2, g3⟩ | ⟨g1, g2⟩
  · rw [dec_of h g1 g2 hb]; obtain ⟨v, e⟩ := q; simp only at g3; rw [g3]
  · rw [dec_none h g1, g2]
theorem same_then {a b : Val} (h : Ok a) {ρ : Type} {Q : ρ → Prop} {k : Bool → Option ρ} (h1 : a = b → WP (k true) Q) (h2 : ¬ a = b → WP (k false) Q) : WP (Go.DL.bd (g_codec_Same 60 a b) k) Q := by
  refine WP.bdW ((same_eq 60 a b h.2.1 h.1).mono fun y hy => ?_)
  cases y with
  | true => exact h1 (hy.1 rfl)
  | false => exact h2 fun e => by have := hy.2 e; cases this
theorem rsame_then {a b : Val} (h : Ok a) {ρ : Type} {Q : ρ → Prop} {k : Bool → Option ρ} (h1 : a = b → WP (k true) Q) (h2 : ¬ a = b → WP (k false) Q) : WP (Go.DL.bd (g_ref02_Same 60 a b) k) Q := by
  refine WP.bdW ((rsame_eq 60 a b h.2.1 h.1).mono fun y hy => ?_)
  cases y with
  | true => exact h1 (hy.1 rfl)
  | false => exact h2 fun e => by have := hy.2 e; cases this
theorem get_t {v : Val} {key : List UInt8} (h : Ok v) : g_codec_Get v key = some (getV v key) := by
  have h1 := h.1
  cases v with
  | mk k n s l ks => simp only [rng] at h1; exact get_eq h1.2.2.2.2.1 h1.2.2.2.1
theorem sane_eq : g_law02_sane = some (.inl true) := by
  refine WP.eq ?_
  unfold g_law02_sane
  have hL : good 0 vL := vL_good
  have hLo : Ok vL := good_ok hL (by rw [vL_enc]; simp)
  have hDo : Ok vD := good_ok vD_good (by rw [vD_enc]; simp)
  refine WP.bd (r := .mk 1 (-3) [] [] []) rfl (WP.bd (r := .mk 2 0 [97, 98] [] []) rfl (WP.bd (r := vL) rfl (WP.bdP (Encode_eq hLo) ?_)))
  have hc : chk vL = 0 := chk0.2 ⟨hL.1, by have := hL.2.2; omega⟩
  have he : encR vL = ([108, 105, 45, 51, 101, 50, 58, 97, 98, 101], 0) := by unfold encR; rw [if_pos hc, vL_enc]
  rw [he]
  refine WP.bdPW ((decode_eq (by simp)).mono fun y ⟨p, h1, h2⟩ => ⟨p, h1, ?_⟩)
  have hp := dec_of h2 vD_good vD_enc (by simp)
  subst hp
  refine WP.bd (get_t hDo) (WP.bd (get_t hDo) ?_)
  have g1 : getV vD [97] = (.mk 1 1 [] [] [], true) := by simp [getV, vD, Val.k, Val.l, Val.ks]
  have g2 : getV vD [98] = (zV, false) := by
    have : List.idxOf ([98] : List UInt8) [[97]] = 1 := by decide
    simp [getV, vD, Val.k, Val.l, Val.ks, this]
  rw [g1, g2]
  refine WP.iteN (fun h => absurd rfl h) (fun _ => ?_)
  dsimp only
  rw [show (([108, 105, 45, 51, 101, 50, 58, 97, 98, 101] : List UInt8) == [108, 105, 45, 51, 101, 50, 58, 97, 98, 101]) = true by decide]
  refine WP.iteNb (WP.iteT (WP.iteN (fun h => absurd rfl h) (fun _ => WP.iteNb (WP.iteT (WP.iteF (WP.iteN (fun h => absurd rfl h) (fun _ => WP.iteN (fun h => absurd rfl h) (fun _ => same_then hDo (fun _ => ?_) (fun h => absurd rfl h)))))))))
  refine WP.iteNb (WP.iteT (same_then hDo (fun h => ?_) (fun _ => ?_)))
  · unfold vD at h; injection h with h; exact absurd h (by decide)
  unfold g_law02_sane_j1
  refine WP.iteF (WP.loop (fun i => i ≤ 6) (fun i => 6 - i) ?_ (by omega))
  intro i hi
  unfold g_law02_sane_l3
  dsimp only
  refine WP.iteD (fun hlt => ?_) (fun hlt => ?_)
  · have hlt' : i < 6 := by
      have : ((i : Nat) : Int) < 6 := by simpa using hlt
      omega
    refine WP.gn (by simpa using hlt') fun x hx => ?_
    have hxx : x.length ≤ 20 ∧ ∀ v, good 0 v → enc v ≠ x := by
      have hm := List.mem_of_getElem? hx
      simp only [List.mem_cons, List.not_mem_nil, or_false] at hm
      rcases hm with rfl | rfl | rfl | rfl | rfl | rfl
      · exact ⟨by simp, no1⟩
      · exact ⟨by simp, no2⟩
      · exact ⟨by simp, no3⟩
      · exact ⟨by simp, no4⟩
      · exact ⟨by simp, no5⟩
      · exact ⟨by simp, no6⟩
    refine WP.ck (by omega) (WP.bdPW ((decode_eq (by omega)).mono fun y ⟨p, h1, h2⟩ => ⟨p, h1, ?_⟩))
    rw [dec_none h2 hxx.2]
    refine WP.iteN (fun h => absurd rfl h) (fun _ => WP.ckI (by omega) (WP.ret ⟨by show i + 1 ≤ 6; omega, by show 6 - (i + 1) < 6 - i; omega⟩))
  · unfold g_law02_sane_j2
    refine WP.up (WP.bd (check_eq (v := zV) zV_ok.2.1 zV_ok.1) (WP.ret ?_))
    rw [chk_zV]; rfl
theorem law_DecodeSpec (b : List UInt8) : g_law02_CodecDecodeSpec b = some (.inl true) := by
  refine WP.eq ?_
  unfold g_law02_CodecDecodeSpec
  refine WP.bdP sane_eq (WP.iteNb (WP.iteT (WP.iteD (fun _ => WP.ret rfl) (fun hl => ?_))))
  refine WP.bdPW ((decode_eq (by omega)).mono fun y ⟨p, h1, h2⟩ => ⟨p, h1, ?_⟩)
  refine WP.bdPW ((rdecode_eq (by omega)).mono fun y ⟨q, h3, h4⟩ => ⟨q, h3, ?_⟩)
  have := dec_det h2 h4 (by omega)
  subst this
  refine rsame_then (dec_ok h2 (by omega)) (fun _ => WP.iteT (WP.ret ?_)) (fun h => absurd rfl h)
  simp
end Go.Proofs.YtimalbkjflfdoaaDoor
