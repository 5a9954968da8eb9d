/-
  Texts that belong together, one behind the other; what each of them proves, and under which conditions, its own heading says.
-/
import Derived.Test.YtimalbkjflfdoaaDoorRows
import Derived.Test.YtimalbkjflfdoaaDoorJe
/-
  The reader of chapter 2 in plain Lean: reader.value reads exactly the encodings. Conditions: those of each theorem.
-/
set_option linter.unusedVariables false
set_option linter.unusedSimpArgs false
set_option maxRecDepth 100000
set_option maxHeartbeats 1000000
namespace Go.Proofs.YtimalbkjflfdoaaDoor
open Go.DL
theorem iteNb_neq {α ρ : Type} {Q : ρ → Prop} [BEq α] [LawfulBEq α] {x y : α} {i : Decidable ((!(x == y)) = true)} {a b : Option ρ} (h1 : ¬ x = y → WP a Q) (h2 : x = y → WP b Q) : WP (@ite _ ((!(x == y)) = true) i a b) Q := by
  by_cases h : x = y
  · rw [if_neg (by simp [h])]; exact h2 h
  · rw [if_pos (by simp [h])]; exact h1 h
/-- The elements of a list or a dictionary. -/
theorem list_loop {rc : Reader → Int → Option ((Val × Reader) ⊕ Unit)} {kd : Int} (hk : kd = 3 ∨ kd = 4) {d : Nat} (hd : d < 16) {r0 : List UInt8} (hr : r0.length ≤ 1099511627776) (hrc : ∀ q : List UInt8, q.length ≤ 1099511627776 → WP (rc ⟨q⟩ ((d : Int) + 1)) (VRes (d + 1) q)) :
    WP (loopO (g__codec_reader_value_s_l5 kd (d : Int) rc) (r0, ([] : List Val), ([] : List (List UInt8)))) (VRes d ((if kd = 4 then 100 else 108) :: r0)) := by
  -- what is read fits, or nothing fits
  have bad : ∀ (K : List (List UInt8)) (L : List Val) (r : List UInt8), r0 = body kd K L ++ r → (∀ x ∈ L, good (d + 1) x) → KOk kd K L →
      (∀ ks2 l2 a, (∀ x ∈ l2, good (d + 1) x) → KOk kd (K ++ ks2) (L ++ l2) → r ≠ body kd ks2 l2 ++ 101 :: a) → VRes d ((if kd = 4 then 100 else 108) :: r0) (.inr ()) := by
    intro K L r h1 hL hK hno v a hv he
    obtain ⟨c, q, e1, c1⟩ := enc_first hv.1
    have hk' : v.k = kd := by
      rw [e1, List.cons_append, List.cons.injEq] at he
      obtain ⟨he, _⟩ := he
      rcases hk with rfl | rfl <;> simp at he <;> subst he <;> rcases c1 with ⟨_, h⟩ | ⟨_, h, h2⟩ | ⟨h, h2⟩ | ⟨h, h2⟩
      · exact absurd h (by decide)
      · simp at h2
      · exact h
      · exact absurd h2 (by decide)
      · exact absurd h (by decide)
      · simp at h2
      · exact absurd h2 (by decide)
      · exact h
    cases v with
    | mk k n s l ks =>
      simp only [Val.k] at hk'
      subst hk'
      obtain ⟨rfl, rfl, g1, _, g2⟩ := list_good hk hv
      rw [enc_body hk, List.cons_append, List.cons.injEq] at he
      have h2 : r0 = body k ks l ++ 101 :: a := by simpa using he.2
      obtain ⟨ks2, l2, rfl, rfl, e3⟩ := body_pre hk (by omega) hL g2 hK g1 h1 h2
      exact hno ks2 l2 a (fun x hx => g2 x (List.mem_append_right _ hx)) g1 e3
  refine WP.loop (fun (p : List UInt8 × List Val × List (List UInt8)) => r0 = body kd p.2.2 p.2.1 ++ p.1 ∧ (∀ x ∈ p.2.1, good (d + 1) x) ∧ KOk kd p.2.2 p.2.1) (fun p => p.1.length) ?_ ⟨by simp [body, encL, encD], by simp, by simp [incr, KOk]⟩
  rintro ⟨r, L, K⟩ ⟨h1, hL, hK⟩
  simp only at h1 hL hK
  have hrl : r.length ≤ r0.length := by rw [h1]; simp
  have hLl : L.length ≤ r0.length := by
    rw [h1, List.length_append]
    have : L.length ≤ (body kd K L).length := by
      unfold body; split
      · exact encD_ge
      · exact encL_ge fun x hx => (hL x hx).1
    omega
  have hKl : K.length ≤ r0.length := by
    rcases hk with rfl | rfl
    · rw [hK.2 rfl]; simp
    · rw [(hK.1 rfl).1]; exact hLl
  simp only [g__codec_reader_value_s_l5]
  refine WP.iteE (fun h0 => WP.up (WP.ret ?_)) (fun h0 => ?_)
  · refine bad K L r h1 hL hK fun ks2 l2 a _ _ e => ?_
    have : r.length = 0 := by omega
    rw [e] at this; simp at this
  cases r with
  | nil => simp at h0
  | cons x r =>
    refine WP.gn (by simp) fun x' hx' => ?_
    simp at hx'; subst hx'
    refine WP.iteE (fun h101 => ?_) (fun h101 => ?_)
    · have hx : x = 101 := UInt8.toNat_inj.1 (show x.toNat = 101 by omega)
      subst hx
      refine WP.sb ⟨by simp, by simp only [Option.getD_some, Option.getD_none, List.length_cons]; omega, by simp⟩ (WP.up (WP.ret ?_))
      show VRes d _ (.inl _)
      refine ⟨good_list hk hd hK hL, ?_⟩
      show (if kd = 4 then 100 else 108) :: r0 = enc (.mk kd 0 [] L K) ++ r
      rw [enc_body hk, h1]; simp
    · have hx : ¬ x = 101 := fun e => h101 (by subst e; rfl)
      -- one more element behind K2
      have elem : ∀ (K2 : List (List UInt8)) (q : List UInt8) (pre : List UInt8), q.length < (x :: r).length → x :: r = pre ++ q → (∀ e : Val, body kd K2 (L ++ [e]) = body kd K L ++ (pre ++ enc e)) → (∀ e : Val, KOk kd K2 (L ++ [e]) ) →
          (∀ ks2 l2 a, (∀ x ∈ l2, good (d + 1) x) → KOk kd (K ++ ks2) (L ++ l2) → x :: r = body kd ks2 l2 ++ 101 :: a → ∃ e a', good (d + 1) e ∧ q = enc e ++ a') →
          WP (g__codec_reader_value_s_j6 (d : Int) rc L kd q K2) (Rnd (fun (p : List UInt8 × List Val × List (List UInt8)) => r0 = body kd p.2.2 p.2.1 ++ p.1 ∧ (∀ x ∈ p.2.1, good (d + 1) x) ∧ KOk kd p.2.2 p.2.1) (fun p => p.1.length) (x :: r).length (VRes d ((if kd = 4 then 100 else 108) :: r0))) := by
        intro K2 q pre hql hpre hbody hKOk hno
        unfold g__codec_reader_value_s_j6
        have hq2 : (x :: r).length ≤ r0.length := hrl
        obtain ⟨y, hy, hV⟩ := hrc q (by omega)
        refine WP.ckI (by omega) ?_
        cases y with
        | inl y =>
          obtain ⟨e, q'⟩ := y
          obtain ⟨he, hqe⟩ := hV
          simp only at he hqe
          refine WP.bdP hy (WP.ck (by simp; omega) (WP.ret ⟨⟨?_, ?_, ?_⟩, ?_⟩))
          · simp only
            rw [hbody e, h1, hpre, hqe]; simp
          · simp only
            intro z hz
            rcases List.mem_append.1 hz with hz | hz
            · exact hL z hz
            · simp at hz; subst hz; exact he
          · exact hKOk e
          · simp only
            have : q'.rest.length ≤ q.length := by rw [hqe]; simp
            omega
        | inr u =>
          refine WP.bdPz hy (WP.up (WP.ret ?_))
          refine bad K L (x :: r) h1 hL hK fun ks2 l2 a g1 g2 e => ?_
          obtain ⟨ev, a', hev, hq'⟩ := hno ks2 l2 a g1 g2 e
          exact hV ev a' hev hq'
      rcases hk with rfl | rfl
      · have hK0 : K = [] := hK.2 rfl
        subst hK0
        refine WP.iteE (fun h => absurd h (by decide)) (fun _ => ?_)
        have hrx : (x :: r).length ≤ r0.length := hrl
        unfold g__codec_reader_value_s_j6
        obtain ⟨y, hy, hV⟩ := hrc (x :: r) (by omega)
        refine WP.ckI (by omega) ?_
        cases y with
        | inl y =>
          obtain ⟨e, q'⟩ := y
          obtain ⟨he, hqe⟩ := hV
          simp only at he hqe
          have hpos := enc_pos he.1
          refine WP.bdP hy (WP.ck (by simp; omega) (WP.ret ⟨⟨?_, ?_, ?_⟩, ?_⟩))
          · simp only
            rw [body_snoc3, h1, hqe]; simp
          · simp only
            intro z hz
            rcases List.mem_append.1 hz with hz | hz
            · exact hL z hz
            · simp at hz; subst hz; exact he
          · exact ⟨fun h => by omega, fun _ => rfl⟩
          · simp only
            rw [hqe]; simp; omega
        | inr u =>
          refine WP.bdPz hy (WP.up (WP.ret ?_))
          refine bad [] L (x :: r) h1 hL hK fun ks2 l2 a g1 g2 e => ?_
          cases l2 with
          | nil =>
            simp [body, encL] at e
            exact hx e.1
          | cons v l2 =>
            simp only [body, show ¬ (3 : Int) = 4 by decide, if_false, encL, List.append_assoc] at e
            exact hV v _ (g1 v List.mem_cons_self) e
      · obtain ⟨hKL, hKi⟩ := hK.1 rfl
        refine WP.iteE (fun _ => ?_) (fun h => absurd rfl h)
        have hrx : (x :: r).length ≤ r0.length := hrl
        -- a dictionary's rest begins with a key
        have key : ∀ ks2 l2 a, (∀ x ∈ l2, good (d + 1) x) → KOk 4 (K ++ ks2) (L ++ l2) → x :: r = body 4 ks2 l2 ++ 101 :: a → ∃ k v a', good (d + 1) v ∧ incr (K ++ [k]) = true ∧ x :: r = txt k ++ (enc v ++ a') := by
          intro ks2 l2 a g1 g2 e
          cases l2 with
          | nil => simp [body, encD] at e; exact absurd e.1 hx
          | cons v l2 =>
            cases ks2 with
            | nil =>
              have := (g2.1 rfl).1
              simp at this; omega
            | cons k ks2 =>
              refine ⟨k, v, encD ks2 l2 ++ 101 :: a, g1 v List.mem_cons_self, ?_, by simpa [body, encD] using e⟩
              refine incr_append_one hKi fun y hy => incr_last (g2.1 rfl).2 hy
        refine WP.num (c := 58) (by rfl) (by decide) (by omega) ?_ ?_
        · intro n rest hn he
          unfold g__codec_reader_value_s_j7
          refine WP.ckI ⟨hn.1, hn.2⟩ (iteNb_neq (fun h => absurd rfl h) fun _ => ?_)
          have hrl2 : rest.length < (x :: r).length := by rw [he]; simp; omega
          refine WP.iteD (fun hneg => WP.up (WP.ret ?_)) (fun hneg => ?_)
          · refine bad K L (x :: r) h1 hL hK fun ks2 l2 a g1 g2 e => ?_
            obtain ⟨k, v, a', _, _, e2⟩ := key ks2 l2 a g1 g2 e
            rw [e2, txt_itoa] at he
            have hkl : k.length ≤ (x :: r).length := by have := txt_ge k; rw [e2]; simp; omega
            obtain ⟨h3, _⟩ := itoa_split (c := 58) (m := ((k.length : Nat) : Int)) (by decide) ⟨by omega, by omega⟩ hn (by simpa using he)
            omega
          refine WP.iteD (fun hlong => WP.up (WP.ret ?_)) (fun hlong => ?_)
          · refine bad K L (x :: r) h1 hL hK fun ks2 l2 a g1 g2 e => ?_
            obtain ⟨k, v, a', _, _, e2⟩ := key ks2 l2 a g1 g2 e
            rw [e2, txt_itoa] at he
            have hkl : k.length ≤ (x :: r).length := by have := txt_ge k; rw [e2]; simp; omega
            obtain ⟨h3, h4⟩ := itoa_split (c := 58) (m := ((k.length : Nat) : Int)) (by decide) ⟨by omega, by omega⟩ hn (by simpa using he)
            rw [← h4] at hlong
            simp at hlong; omega
          refine WP.sb ⟨by simp, by simp; omega, by simp; omega⟩ (WP.sb ⟨by simp; omega, by simp; omega, by simp⟩ ?_)
          have e1 : subList rest none (some n) = rest.take n.toNat := rfl
          have e2 : subList rest (some n) none = rest.drop n.toNat := rfl
          rw [e1, e2]
          have hkl : (rest.take n.toNat).length = n.toNat := by simp; omega
          have hpre : x :: r = txt (rest.take n.toNat) ++ rest.drop n.toNat := by
            rw [he, txt_itoa, hkl, show ((n.toNat : Nat) : Int) = n by omega]
            simp
          have uniq : ∀ k b, x :: r = txt k ++ b → k = rest.take n.toNat ∧ b = rest.drop n.toNat := by
            intro k b hb
            have : k.length ≤ (x :: r).length := by have := txt_ge k; rw [hb]; simp; omega
            exact txt_split (by omega) (by omega) (hb.symm.trans hpre)
          have hfin : (∀ y, K.getLast? = some y → Op.bytesLess y (rest.take n.toNat) = true) → WP (g__codec_reader_value_s_j9 K (rest.take n.toNat) (d : Int) rc L 4 (rest.drop n.toNat)) (Rnd (fun (p : List UInt8 × List Val × List (List UInt8)) => r0 = body 4 p.2.2 p.2.1 ++ p.1 ∧ (∀ x ∈ p.2.1, good (d + 1) x) ∧ KOk 4 p.2.2 p.2.1) (fun p => p.1.length) (x :: r).length (VRes d ((if (4 : Int) = 4 then 100 else 108) :: r0))) := by
            intro hless
            unfold g__codec_reader_value_s_j9
            refine WP.ck (by simp; omega) (elem (K ++ [rest.take n.toNat]) (rest.drop n.toNat) (txt (rest.take n.toNat)) (by rw [List.length_drop]; omega) hpre (fun e => body_snoc4 hKL _ _) (fun e => ⟨fun _ => ⟨by simp [hKL], incr_append_one hKi hless⟩, fun h => by omega⟩) ?_)
            intro ks2 l2 a g1 g2 e
            obtain ⟨k, v, a', gv, _, e3⟩ := key ks2 l2 a g1 g2 e
            obtain ⟨_, e4⟩ := uniq k _ e3
            exact ⟨v, a', gv, e4.symm⟩
          refine WP.iteD (fun hpos => ?_) (fun hpos => hfin fun y hy => ?_)
          · refine WP.ckI (by omega) (WP.gt (by omega) fun y hy => ?_)
            have hy' : K.getLast? = some y := by
              rw [List.getLast?_eq_getElem?, ← hy]; congr 1; omega
            refine WP.iteNb (WP.iteB (fun hl => hfin fun z hz => ?_) (fun hl => WP.up (WP.ret ?_)))
            · rw [hy'] at hz; cases hz; exact hl
            · refine bad K L (x :: r) h1 hL hK fun ks2 l2 a g1 g2 e => ?_
              obtain ⟨k, v, a', gv, gi, e3⟩ := key ks2 l2 a g1 g2 e
              obtain ⟨e4, _⟩ := uniq k _ e3
              rw [e4] at gi
              have := incr_last (r := []) gi hy'
              rw [this] at hl; cases hl
          · have : K = [] := List.eq_nil_of_length_eq_zero (by omega)
            subst this; simp at hy
        · intro hno
          have hb : VRes d ((if (4 : Int) = 4 then 100 else 108) :: r0) (.inr ()) := by
            refine bad K L (x :: r) h1 hL hK fun ks2 l2 a g1 g2 e => ?_
            obtain ⟨k, v, a', _, _, e2⟩ := key ks2 l2 a g1 g2 e
            rw [txt_itoa] at e2
            have hkl : k.length ≤ (x :: r).length := by rw [e2]; simp only [List.length_append, List.length_cons]; omega
            exact hno ((k.length : Nat) : Int) (k ++ (enc v ++ a')) ⟨by omega, by omega⟩ (by rw [e2]; simp)
          refine ⟨WP.up (WP.ret hb), WP.up (WP.ret hb), fun s rest => ?_, fun s rest n hn hs => ?_⟩
          · unfold g__codec_reader_value_s_j8; exact WP.up (WP.ret hb)
          · unfold g__codec_reader_value_s_j7
            exact WP.ckI ⟨hn.1, hn.2⟩ (iteNb_neq (fun _ => WP.up (WP.ret hb)) fun h => absurd h hs)
end Go.Proofs.YtimalbkjflfdoaaDoor

/-
  Decode of chapter 2 in plain Lean. Conditions: those of each theorem.
-/
set_option linter.unusedVariables false
set_option linter.unusedSimpArgs false
set_option maxRecDepth 100000
set_option maxHeartbeats 1000000
namespace Go.Proofs.YtimalbkjflfdoaaDoor
open Go.DL
theorem value_s {rc : Reader → Int → Option ((Val × Reader) ⊕ Unit)} {d : Nat} (hd : d ≤ 16) {r : List UInt8} (hr : r.length ≤ 1099511627776) (hrc : d < 16 → ∀ q : List UInt8, q.length ≤ 1099511627776 → WP (rc ⟨q⟩ ((d : Int) + 1)) (VRes (d + 1) q)) : WP (g__codec_reader_value_s rc ⟨r⟩ (d : Int)) (VRes d r) := by
  unfold g__codec_reader_value_s
  refine WP.iteE (fun h0 => WP.ret ?_) (fun h0 => ?_)
  · intro v a hv e
    have h1 := enc_pos hv.1
    simp only at h0
    have : r.length = 0 := by omega
    rw [e, List.length_append] at this
    omega
  cases r with
  | nil => simp at h0
  | cons x r =>
    refine WP.gn (by simp) fun x' hx' => ?_
    simp at hx'; subst hx'
    have hrl : (x :: r).length ≤ 1099511627776 := hr
    -- what begins with x
    have first : ∀ v a, good d v → x :: r = enc v ++ a → (v.k = 1 ∧ x = 105) ∨ (v.k = 2 ∧ 48 ≤ x.toNat ∧ x.toNat ≤ 57) ∨ (v.k = 3 ∧ x = 108) ∨ (v.k = 4 ∧ x = 100) := by
      intro v a hv e
      obtain ⟨c, q, e1, c1⟩ := enc_first hv.1
      rw [e1, List.cons_append, List.cons.injEq] at e
      rw [e.1]; exact c1
    have hj1 : ∀ b : Bool, (b = true ↔ 48 ≤ x.toNat ∧ x.toNat ≤ 57) → WP (g__codec_reader_value_s_j1 ⟨x :: r⟩ x (d : Int) rc b) (VRes d (x :: r)) := by
      intro b hb
      unfold g__codec_reader_value_s_j1
      dsimp only
      refine WP.iteB (fun h => ?_) (fun h => ?_)
      · have hdig := hb.1 h
        -- a text
        have txtv : ∀ v a, good d v → x :: r = enc v ++ a → ∃ s, s.length ≤ (x :: r).length ∧ x :: r = Lib.itoa ((s.length : Nat) : Int) ++ 58 :: (s ++ a) := by
          intro v a hv e
          have hk : v.k = 2 := by
            rcases first v a hv e with ⟨_, h⟩ | ⟨h, _⟩ | ⟨_, h⟩ | ⟨_, h⟩
            · subst h; simp at hdig
            · exact h
            · subst h; simp at hdig
            · subst h; simp at hdig
          cases v with
          | mk k n s l ks =>
            simp only [Val.k] at hk
            subst hk
            simp (config := { decide := true }) only [enc, if_true, if_false] at e
            refine ⟨s, ?_, ?_⟩
            · have := txt_ge s; rw [e, List.length_append]; omega
            · rw [e, txt_itoa]; simp
        refine WP.num (c := 58) (by rfl) (by decide) (by omega) ?_ ?_
        · intro n rest hn he
          unfold g__codec_reader_value_s_j2
          refine WP.ckI ⟨hn.1, hn.2⟩ (iteNb_neq (fun h => absurd rfl h) fun _ => ?_)
          have hrl2 : rest.length < (x :: r).length := by rw [he]; simp; omega
          have same : ∀ v a, good d v → x :: r = enc v ++ a → ∃ s : List UInt8, ((s.length : Nat) : Int) = n ∧ s ++ a = rest := by
            intro v a hv e
            obtain ⟨s, h1, h2⟩ := txtv v a hv e
            exact ⟨s, itoa_split (c := 58) (m := ((s.length : Nat) : Int)) (by decide) ⟨by omega, by omega⟩ hn (h2.symm.trans he)⟩
          refine WP.iteD (fun hneg => WP.ret fun v a hv e => ?_) (fun hneg => ?_)
          · obtain ⟨s, h1, _⟩ := same v a hv e; omega
          refine WP.iteD (fun hlong => WP.ret fun v a hv e => ?_) (fun hlong => ?_)
          · obtain ⟨s, h1, h2⟩ := same v a hv e
            have : s.length ≤ rest.length := by rw [← h2]; simp
            omega
          refine WP.sb ⟨by simp, by simp; omega, by simp; omega⟩ (WP.sb ⟨by simp; omega, by simp; omega, by simp⟩ (WP.ret ?_))
          have e1 : subList rest none (some n) = rest.take n.toNat := rfl
          have e2 : subList rest (some n) none = rest.drop n.toNat := rfl
          rw [e1, e2]
          have hkl : (rest.take n.toNat).length = n.toNat := by rw [List.length_take]; omega
          refine ⟨⟨by simp [wf], ?_, by simp [dep]; omega⟩, ?_⟩
          · simp only [ints, intsL]; exact ⟨⟨by omega, by omega⟩, trivial⟩
          · show x :: r = enc (.mk 2 0 (rest.take n.toNat) [] []) ++ rest.drop n.toNat
            simp (config := { decide := true }) only [enc, if_true, if_false]
            rw [he, txt_itoa, hkl, show ((n.toNat : Nat) : Int) = n by omega]
            simp
        · intro hno
          have hb : VRes d (x :: r) (.inr ()) := fun v a hv e => by
            obtain ⟨s, h1, h2⟩ := txtv v a hv e
            exact hno ((s.length : Nat) : Int) _ ⟨by omega, by omega⟩ h2
          refine ⟨WP.ret hb, WP.ret hb, fun s rest => WP.ret hb, fun s rest n hn hs => ?_⟩
          unfold g__codec_reader_value_s_j2
          exact WP.ckI ⟨hn.1, hn.2⟩ (iteNb_neq (fun _ => WP.ret hb) fun h => absurd h hs)
      · have hdig : ¬ (48 ≤ x.toNat ∧ x.toNat ≤ 57) := fun hh => by rw [hb.2 hh] at h; cases h
        refine WP.sb ⟨by simp, by simp only [Option.getD_some, Option.getD_none, List.length_cons]; omega, by simp⟩ ?_
        have e1 : subList (x :: r) (some 1) none = r := rfl
        simp only [e1]
        refine WP.iteE (fun h105 => ?_) (fun h105 => ?_)
        · have hx : x = 105 := UInt8.toNat_inj.1 (show x.toNat = 105 by omega)
          subst hx
          have intv : ∀ v a, good d v → (105 : UInt8) :: r = enc v ++ a → ∃ n, i64 n ∧ r = Lib.itoa n ++ 101 :: a := by
            intro v a hv e
            have hk : v.k = 1 := by
              rcases first v a hv e with ⟨h, _⟩ | ⟨_, h⟩ | ⟨_, h⟩ | ⟨_, h⟩
              · exact h
              · exact absurd h hdig
              · exact absurd h (by decide)
              · exact absurd h (by decide)
            cases v with
            | mk k n s l ks =>
              simp only [Val.k] at hk
              subst hk
              have := hv.2.1
              simp only [ints] at this
              simp (config := { decide := true }) only [enc, if_true, List.cons_append, List.cons.injEq, true_and, List.append_assoc, List.nil_append] at e
              exact ⟨n, this.1, e⟩
          have hrl1 : r.length < 1099511627776 := by simp only [List.length_cons] at hrl; omega
          refine WP.num (c := 101) (by rfl) (by decide) (by omega) ?_ ?_
          · intro n rest hn he
            unfold g__codec_reader_value_s_j10
            refine WP.ckI ⟨hn.1, hn.2⟩ (iteNb_neq (fun h => absurd rfl h) fun _ => WP.ret ?_)
            refine ⟨⟨by simp [wf], ?_, by simp [dep]; omega⟩, ?_⟩
            · simp only [ints, intsL]; exact ⟨hn, trivial⟩
            · show (105 : UInt8) :: r = enc (.mk 1 n [] [] []) ++ rest
              simp [enc, he]
          · intro hno
            have hb : VRes d (105 :: r) (.inr ()) := fun v a hv e => by
              obtain ⟨n, h1, h2⟩ := intv v a hv e
              exact hno n a h1 h2
            refine ⟨WP.ret hb, WP.ret hb, fun s rest => WP.ret hb, fun s rest n hn hs => ?_⟩
            unfold g__codec_reader_value_s_j10
            exact WP.ckI ⟨hn.1, hn.2⟩ (iteNb_neq (fun _ => WP.ret hb) fun h => absurd h hs)
        have hrl1 : r.length ≤ 1099511627776 := by simp only [List.length_cons] at hrl; omega
        have lists : ∀ (kd : Int), (kd = 3 ∨ kd = 4) → x = (if kd = 4 then 100 else 108) → WP (g__codec_reader_value_s_j4 (d : Int) rc r kd) (VRes d (x :: r)) := by
          intro kd hk hx
          unfold g__codec_reader_value_s_j4
          refine WP.iteE (fun hd16 => WP.ret fun v a hv e => ?_) (fun hd16 => ?_)
          · have hkv : v.k = 3 ∨ v.k = 4 := by
              rcases first v a hv e with ⟨_, h⟩ | ⟨_, h⟩ | ⟨h, _⟩ | ⟨h, _⟩
              · rw [h] at h105; exact absurd rfl h105
              · exact absurd h hdig
              · exact .inl h
              · exact .inr h
            cases v with
            | mk k n s l ks =>
              simp only [Val.k] at hkv
              obtain ⟨_, _, _, h, _⟩ := list_good hkv hv
              omega
          · rw [hx]
            exact list_loop hk (by omega) hrl1 (hrc (by omega))
        refine WP.iteE (fun h108 => lists 3 (.inl rfl) (UInt8.toNat_inj.1 (show x.toNat = 108 by omega))) (fun h108 => WP.iteE (fun h100 => lists 4 (.inr rfl) (UInt8.toNat_inj.1 (show x.toNat = 100 by omega))) (fun h100 => WP.ret fun v a hv e => ?_))
        rcases first v a hv e with ⟨_, h⟩ | ⟨_, h⟩ | ⟨_, h⟩ | ⟨_, h⟩
        · rw [h] at h105; exact absurd rfl h105
        · exact absurd h hdig
        · rw [h] at h108; exact absurd rfl h108
        · rw [h] at h100; exact absurd rfl h100
    refine WP.iteD (fun h => hj1 _ ?_) (fun h => hj1 false ?_)
    · rw [decide_eq_true_eq]; omega
    · constructor
      · intro h; cases h
      · intro hh; omega
theorem value_eq : ∀ (fu d : Nat), d ≤ 16 → 17 ≤ fu + d → ∀ {r : List UInt8}, r.length ≤ 1099511627776 → WP (g__codec_reader_value fu ⟨r⟩ (d : Int)) (VRes d r)
  | 0, d, h1, h2, _, _ => by omega
  | fu + 1, d, h1, h2, r, hr => value_s h1 hr fun hd q hq => value_eq fu (d + 1) (by omega) (by omega) hq
/-- What Decode answers. -/
def Dec02 (b : List UInt8) (y : Val × Int) : Prop := (good 0 y.1 ∧ enc y.1 = b ∧ y.2 = 0) ∨ ((∀ v, good 0 v → enc v ≠ b) ∧ y = (zV, 20))
theorem good_rng {d : Nat} {v : Val} {n : Nat} (h : good d v) (hl : (enc v).length ≤ n) (hn : n ≤ 140737488355328) : rng v := rng_of h.1 h.2.1 (by omega)
theorem decode_eq {b : List UInt8} (hb : b.length ≤ 1099511627776) : WP (g_codec_Decode b) fun y => ∃ p, y = .inl p ∧ Dec02 b p := by
  obtain ⟨y, hy, hV⟩ := value_eq 60 0 (by omega) (by omega) hb
  unfold g_codec_Decode
  cases y with
  | inl y =>
    obtain ⟨v, q⟩ := y
    obtain ⟨h1, h2⟩ := hV
    simp only at h1 h2
    refine WP.bdP hy (WP.iteD (fun h => WP.ret ⟨_, rfl, .inr ⟨fun w hw he => ?_, rfl⟩⟩) (fun h => WP.ret ⟨_, rfl, .inl ⟨h1, ?_, rfl⟩⟩))
    · simp only at h
      have hlen : (enc v).length ≤ b.length := by rw [h2]; simp
      have := enc_split (good_rng hw (n := b.length) (by rw [he]; omega) (by omega)) (good_rng h1 hlen (by omega)) hw.1 h1.1 (a := []) (b := q.rest) (by rw [← h2, List.append_nil]; exact he)
      rw [← this.2] at h; simp at h
    · have : q.rest = [] := List.eq_nil_of_length_eq_zero (by simp only at h; omega)
      rw [h2, this, List.append_nil]
  | inr u =>
    refine WP.bdPz hy (WP.ret ⟨_, rfl, .inr ⟨fun w hw he => hV w [] hw (by rw [List.append_nil]; exact he.symm), rfl⟩⟩)
end Go.Proofs.YtimalbkjflfdoaaDoor

/-
  The reference reader of chapter 2 in plain Lean: numbers. Conditions: those of each theorem.
-/
set_option linter.unusedVariables false
set_option linter.unusedSimpArgs false
set_option maxRecDepth 100000
set_option maxHeartbeats 1000000
namespace Go.Proofs.YtimalbkjflfdoaaDoor
open Go.DL
theorem decDigits_head : ∀ (u : Nat), 1 ≤ u → ∃ c r, Lib.decDigits u = c :: r ∧ 49 ≤ c.toNat := by
  intro u
  induction u using Nat.strongRecOn with
  | _ u ih =>
    intro hu
    by_cases h : u < 10
    · exact ⟨_, [], Lib.decDigits_one h, by rw [digit_toNat h]; omega⟩
    · obtain ⟨c, r, e, hc⟩ := ih (u / 10) (by omega) (by omega)
      rw [Lib.decDigits.eq_1 u, dif_neg h, e]
      exact ⟨c, r ++ _, rfl, hc⟩
end Go.Proofs.YtimalbkjflfdoaaDoor

/-
  The reference reader of chapter 2 in plain Lean: texts and integers. Conditions: those of each theorem.
-/
set_option linter.unusedVariables false
set_option linter.unusedSimpArgs false
set_option maxRecDepth 100000
set_option maxHeartbeats 1000000
namespace Go.Proofs.YtimalbkjflfdoaaDoor
open Go.DL
theorem dd_inj {u v : Nat} (hu : u ≤ 18446744073709551615) (hv : v ≤ 18446744073709551615) (h : Lib.decDigits u = Lib.decDigits v) : u = v := by
  have h1 := parseM_digits u hu
  rw [h, parseM_digits v hv] at h1
  injection h1 with h1
  exact h1.symm
theorem rint_rng {n : Int} (h : i64 n) : rng (.mk 1 n [] [] []) ∧ hgt (.mk 1 n [] [] []) = 1 ∧ cnt (.mk 1 n [] [] []) = 1 := by
  refine ⟨?_, by simp [hgt, hgtL], by simp [cnt, cntL]⟩
  simp only [rng, rngL]
  exact ⟨⟨by omega, by omega⟩, h, by simp, by simp, by simp, by simp, trivial⟩
end Go.Proofs.YtimalbkjflfdoaaDoor

/-
  The reference reader of chapter 2 in plain Lean: negative integers. Conditions: those of each theorem.
-/
set_option linter.unusedVariables false
set_option linter.unusedSimpArgs false
set_option maxRecDepth 100000
set_option maxHeartbeats 1000000
namespace Go.Proofs.YtimalbkjflfdoaaDoor
open Go.DL
end Go.Proofs.YtimalbkjflfdoaaDoor

/-
  The reference reader of chapter 2 in plain Lean: lists and dictionaries. Conditions: those of each theorem.
-/
set_option linter.unusedVariables false
set_option linter.unusedSimpArgs false
set_option maxRecDepth 100000
set_option maxHeartbeats 1000000
namespace Go.Proofs.YtimalbkjflfdoaaDoor
open Go.DL
theorem body_stop {kd : Int} (hk : kd = 3 ∨ kd = 4) {ks : List (List UInt8)} {l : List Val} {a r : List UInt8} (hw : ∀ x ∈ l, wf x = true) (h : 101 :: r = body kd ks l ++ 101 :: a) : l = [] ∧ r = a := by
  cases l with
  | nil =>
    rcases hk with rfl | rfl
    · simp [body, encL] at h; exact ⟨rfl, h⟩
    · simp [body, encD] at h; exact ⟨rfl, h⟩
  | cons x l =>
    exfalso
    rcases hk with rfl | rfl
    · simp only [body, show ¬ (3 : Int) = 4 by decide, if_false, encL, List.append_assoc] at h
      exact first_ne (hw x List.mem_cons_self) h.symm
    · simp only [body, if_true, encD, List.append_assoc] at h
      exact txt_ne h.symm
end Go.Proofs.YtimalbkjflfdoaaDoor

/-
  The reference reader of chapter 2 in plain Lean: its Value and its Decode. Conditions: those of each theorem.
-/
set_option linter.unusedVariables false
set_option linter.unusedSimpArgs false
set_option maxRecDepth 100000
set_option maxHeartbeats 1000000
namespace Go.Proofs.YtimalbkjflfdoaaDoor
open Go.DL
end Go.Proofs.YtimalbkjflfdoaaDoor

/-
  The codec of chapter 2 passes the law's own sanity checks. Conditions: those of each theorem.
-/
set_option linter.unusedVariables false
set_option linter.unusedSimpArgs false
set_option maxRecDepth 100000
set_option maxHeartbeats 1000000
namespace Go.Proofs.YtimalbkjflfdoaaDoor
open Go.DL
theorem dec_of {w : Val} {b : List UInt8} {p : Val × Int} (h : Dec02 b p) (hw : good 0 w) (he : enc w = b) (hl : b.length ≤ 1099511627776) : p = (w, 0) := by
  rcases h with ⟨h1, h2, h3⟩ | ⟨h1, _⟩
  · have := (enc_split (a := []) (b := []) (good_rng h1 (n := b.length) (by rw [h2]; omega) (by omega)) (good_rng hw (n := b.length) (by rw [he]; omega) (by omega)) h1.1 hw.1 (by rw [h2, he])).1
    obtain ⟨v, e⟩ := p
    simp only at this h3
    rw [this, h3]
  · exact absurd he (h1 w hw)
theorem dec_none {b : List UInt8} {p : Val × Int} (h : Dec02 b p) (hn : ∀ v, good 0 v → enc v ≠ b) : p = (zV, 20) := by
  rcases h with ⟨h1, h2, _⟩ | ⟨_, h⟩
  · exact absurd h2 (hn _ h1)
  · exact h
theorem itoa1 {n : Int} (h0 : 0 ≤ n) (h : n < 10) : Lib.itoa n = [UInt8.ofNat (48 + n.toNat)] := by
  unfold Lib.itoa; rw [if_neg (by omega), Lib.decDigits_one (by omega)]
theorem itoa_m3 : Lib.itoa (-3) = [45, 51] := by
  unfold Lib.itoa; rw [if_pos (by omega)]
  rw [show (Int.natAbs (-3)) = 3 by rfl, Lib.decDigits_one (by omega)]; rfl
theorem dd1 {n : Nat} (h : n < 10) : Lib.decDigits n = [UInt8.ofNat (48 + n)] := Lib.decDigits_one h
def vL : Val := .mk 3 0 [] [.mk 1 (-3) [] [] [], .mk 2 0 [97, 98] [] []] []
def vD : Val := .mk 4 0 [] [.mk 1 1 [] [] []] [[97]]
theorem vL_enc : enc vL = [108, 105, 45, 51, 101, 50, 58, 97, 98, 101] := by
  simp [vL, enc, encL, txt, itoa_m3, dd1]
theorem vD_enc : enc vD = [100, 49, 58, 97, 105, 49, 101, 101] := by
  have := itoa1 (n := 1) (by omega) (by omega)
  simp [vD, enc, encL, encD, txt, this, dd1]
theorem vL_good : good 0 vL := by
  refine ⟨by decide, ?_, by decide⟩
  simp [vL, ints, intsL, i64]
theorem vD_good : good 0 vD := by
  refine ⟨by decide, ?_, by decide⟩
  simp [vD, ints, intsL, i64]
theorem first1 {v : Val} {r : List UInt8} (h : good 0 v) (e : enc v = 105 :: r) : ∃ n, i64 n ∧ Lib.itoa n ++ [101] = r := by
  obtain ⟨c, q, e1, c1⟩ := enc_first h.1
  have hk : v.k = 1 := by
    rw [e1, List.cons.injEq] at e
    rcases c1 with ⟨h, _⟩ | ⟨_, h⟩ | ⟨_, h⟩ | ⟨_, h⟩
    · exact h
    · rw [e.1] at h; exact absurd h (by decide)
    · rw [e.1] at h; exact absurd h (by decide)
    · rw [e.1] at h; exact absurd h (by decide)
  cases v with
  | mk k n s l ks =>
    simp only [Val.k] at hk
    subst hk
    have h1 := h.2.1
    simp only [ints] at h1
    simp only [enc, if_true, List.cons.injEq, true_and] at e
    exact ⟨n, h1.1, e⟩
theorem no1 : ∀ v, good 0 v → enc v ≠ [105, 45, 48, 101] := by
  intro v h e
  obtain ⟨n, _, h1⟩ := first1 h e
  have h2 : Lib.itoa n = [45, 48] := List.append_cancel_right (bs := [101]) h1
  unfold Lib.itoa at h2
  split at h2
  · rw [List.cons.injEq] at h2
    have := dd_inj (u := n.natAbs) (v := 0) (by have := n.natAbs; rename_i h3 _; obtain ⟨a, b⟩ := ‹i64 n›; omega) (by omega) (by rw [h2.2, dd1 (by omega)]; rfl)
    omega
  · obtain ⟨c, r, hc, hc2⟩ := decDigits_cons n.toNat
    rw [hc, List.cons.injEq] at h2
    rw [h2.1] at hc2; exact absurd hc2 (by decide)
theorem no2 : ∀ v, good 0 v → enc v ≠ [105, 48, 51, 101] := by
  intro v h e
  obtain ⟨n, _, h1⟩ := first1 h e
  have h2 : Lib.itoa n = [48, 51] := List.append_cancel_right (bs := [101]) h1
  unfold Lib.itoa at h2
  split at h2
  · rw [List.cons.injEq] at h2; exact absurd h2.1 (by decide)
  · rcases Nat.eq_zero_or_pos n.toNat with h0 | h0
    · rw [h0, dd1 (by omega)] at h2; simp at h2
    · obtain ⟨c, r, hc, hc2⟩ := decDigits_head n.toNat h0
      rw [hc, List.cons.injEq] at h2
      rw [h2.1] at hc2; exact absurd hc2 (by decide)
theorem no3 : ∀ v, good 0 v → enc v ≠ [48, 49, 58, 97] := by
  intro v h e
  obtain ⟨c, q, e1, c1⟩ := enc_first h.1
  have hk : v.k = 2 := by
    rw [e1, List.cons.injEq] at e
    rcases c1 with ⟨_, h⟩ | ⟨h, _⟩ | ⟨_, h⟩ | ⟨_, h⟩
    · rw [e.1] at h; exact absurd h (by decide)
    · exact h
    · rw [e.1] at h; exact absurd h (by decide)
    · rw [e.1] at h; exact absurd h (by decide)
  cases v with
  | mk k n s l ks =>
    simp only [Val.k] at hk
    subst hk
    simp (config := { decide := true }) only [enc, if_true, if_false, txt] at e
    have no : ∀ u, (58 : UInt8) ∉ Lib.decDigits u := fun w hw => by have := decDigits_mem w 58 hw; exact absurd this (by decide)
    obtain ⟨h1, h2⟩ := split_at (c := 58) (a := Lib.decDigits s.length) (a' := [48, 49]) (b := s) (b' := [97]) (no _) (by decide) (by rw [e]; rfl)
    subst h2
    rw [show ([97] : List UInt8).length = 1 by rfl, dd1 (by omega)] at h1
    simp at h1
theorem no4 : ∀ v, good 0 v → enc v ≠ [100, 49, 58, 98, 105, 49, 101, 49, 58, 97, 105, 50, 101, 101] := by
  intro v h e
  obtain ⟨c, q, e1, c1⟩ := enc_first h.1
  have hk : v.k = 4 := by
    rw [e1, List.cons.injEq] at e
    rcases c1 with ⟨_, h⟩ | ⟨_, h⟩ | ⟨_, h⟩ | ⟨h, _⟩
    · rw [e.1] at h; exact absurd h (by decide)
    · rw [e.1] at h; exact absurd h (by decide)
    · rw [e.1] at h; exact absurd h (by decide)
    · exact h
  have hrg := good_rng h (n := 100) (by rw [e]; simp) (by omega)
  cases v with
  | mk k n s l ks =>
    simp only [Val.k] at hk
    subst hk
    obtain ⟨_, _, g1, g2, g3⟩ := wf4 h.1
    simp only [rng, rngL_iff] at hrg
    obtain ⟨_, _, _, _, _, r6, r7⟩ := hrg
    have i1 := itoa1 (n := 1) (by omega) (by omega)
    have i2 := itoa1 (n := 2) (by omega) (by omega)
    have eb : encD [[98], [97]] [.mk 1 1 [] [] [], .mk 1 2 [] [] []] ++ [101] = [49, 58, 98, 105, 49, 101, 49, 58, 97, 105, 50, 101, 101] := by
      simp [enc, encD, txt, i1, i2, dd1]
    simp (config := { decide := true }) only [enc, if_true, if_false, List.cons.injEq, true_and] at e
    rw [← eb] at e
    obtain ⟨ks2, l2, e2, e3, e4⟩ := encD_pre (K := [[98], [97]]) (L := [.mk 1 1 [] [] [], .mk 1 2 [] [] []]) (ks := ks) (l := l) (r := [101]) (a := [])
      (fun x hx => by
        simp only [List.mem_cons, List.not_mem_nil, or_false] at hx
        rcases hx with rfl | rfl
        · exact ⟨by decide, (rint_rng ⟨by omega, by omega⟩).1⟩
        · exact ⟨by decide, (rint_rng ⟨by omega, by omega⟩).1⟩)
      (fun x hx => ⟨g3 x hx, r7 x hx⟩) rfl g1 (by simp) r6 e.symm
    have hl2 : l2 = [] ∧ _ := body_stop (kd := 4) (.inr rfl) (ks := ks2) (l := l2) (a := []) (r := []) (fun x hx => g3 x (by rw [e3]; exact List.mem_append_right _ hx)) (by simpa [body] using e4)
    have hks2 : ks2 = [] := by
      have := congrArg List.length e2
      have h3 := congrArg List.length e3
      rw [hl2.1] at h3
      simp at this h3
      exact List.eq_nil_of_length_eq_zero (by omega)
    rw [e2, hks2] at g2
    exact absurd g2 (by decide)
theorem no5 : ∀ v, good 0 v → enc v ≠ [105, 51, 101, 32] := by
  intro v h e
  have i3 := itoa1 (n := 3) (by omega) (by omega)
  have e3 : enc (.mk 1 3 [] [] []) = [105, 51, 101] := by simp [enc, i3]
  have := enc_split (v := v) (w := .mk 1 3 [] [] []) (a := []) (b := [32]) (good_rng h (n := 100) (by rw [e]; simp) (by omega)) (rint_rng ⟨by omega, by omega⟩).1 h.1 (by decide) (by rw [e, e3]; rfl)
  exact absurd this.2 (by simp)
theorem no6 : ∀ v, good 0 v → enc v ≠ [] := by
  intro v h e
  have := enc_pos h.1
  rw [e] at this; simp at this
end Go.Proofs.YtimalbkjflfdoaaDoor

/-
  The laws of chapter 2 in plain Lean: sane, and the laws on Encode, Decode, Same and Get. Conditions: those of each theorem.
-/
set_option linter.unusedVariables false
set_option linter.unusedSimpArgs false
set_option maxRecDepth 100000
set_option maxHeartbeats 1000000
namespace Go.Proofs.YtimalbkjflfdoaaDoor
open Go.DL
theorem WP.bdPW {α ρ : Type} {Q : ρ → Prop} {o : Option (α ⊕ Unit)} {k : α → Option ρ} {z : Option ρ} (h : WP o fun y => ∃ x, y = .inl x ∧ WP (k x) Q) : WP (Go.DL.bdP o k z) Q := by
  obtain ⟨y, h1, x, rfl, h2⟩ := h
  rw [h1]; exact h2
theorem zV_ok : Ok zV := by
  refine ⟨?_, by decide, by decide⟩
  simp [zV, rng, rngL, i64]
theorem chk_zV : chk zV = 1 := by
  unfold chk; rw [if_neg (by decide)]
theorem dec_ok {b : List UInt8} {p : Val × Int} (h : Dec02 b p) (hb : b.length ≤ 50000000000) : Ok p.1 := by
  rcases h with ⟨h1, h2, _⟩ | ⟨_, h⟩
  · exact good_ok h1 (by rw [h2]; exact hb)
  · rw [h]; exact zV_ok
theorem same_then {a b : Val} (h : Ok a) {ρ : Type} {Q : ρ → Prop} {k : Bool → Option ρ} (h1 : a = b → WP (k true) Q) (h2 : ¬ a = b → WP (k false) Q) : WP (Go.DL.bd (g_codec_Same 60 a b) k) Q := by
  refine WP.bdW ((same_eq 60 a b h.2.1 h.1).mono fun y hy => ?_)
  cases y with
  | true => exact h1 (hy.1 rfl)
  | false => exact h2 fun e => by have := hy.2 e; cases this
theorem rsame_then {a b : Val} (h : Ok a) {ρ : Type} {Q : ρ → Prop} {k : Bool → Option ρ} (h1 : a = b → WP (k true) Q) (h2 : ¬ a = b → WP (k false) Q) : WP (Go.DL.bd (g_ref02_Same 60 a b) k) Q := by
  refine WP.bdW ((rsame_eq 60 a b h.2.1 h.1).mono fun y hy => ?_)
  cases y with
  | true => exact h1 (hy.1 rfl)
  | false => exact h2 fun e => by have := hy.2 e; cases this
theorem get_t {v : Val} {key : List UInt8} (h : Ok v) : g_codec_Get v key = some (getV v key) := by
  have h1 := h.1
  cases v with
  | mk k n s l ks => simp only [rng] at h1; exact get_eq h1.2.2.2.2.1 h1.2.2.2.1
theorem rget_t {v : Val} {key : List UInt8} (h : Ok v) : g_ref02_Get v key = some (getV v key) := by
  have h1 := h.1
  cases v with
  | mk k n s l ks => simp only [rng] at h1; exact rget_eq h1.2.2.2.2.1 h1.2.2.2.1
theorem sm_ok {v : Val} (h : Sm v) : Ok v := ⟨h.2.2, by have := h.2.1; omega, by have := h.1; omega⟩
theorem sane_eq : g_law02_sane = some (.inl true) := by
  refine WP.eq ?_
  unfold g_law02_sane
  have hL : good 0 vL := vL_good
  have hLo : Ok vL := good_ok hL (by rw [vL_enc]; simp)
  have hDo : Ok vD := good_ok vD_good (by rw [vD_enc]; simp)
  refine WP.bd (r := .mk 1 (-3) [] [] []) rfl (WP.bd (r := .mk 2 0 [97, 98] [] []) rfl (WP.bd (r := vL) rfl (WP.bdP (Encode_eq hLo) ?_)))
  have hc : chk vL = 0 := chk0.2 ⟨hL.1, by have := hL.2.2; omega⟩
  have he : encR vL = ([108, 105, 45, 51, 101, 50, 58, 97, 98, 101], 0) := by unfold encR; rw [if_pos hc, vL_enc]
  rw [he]
  refine WP.bdPW ((decode_eq (by simp)).mono fun y ⟨p, h1, h2⟩ => ⟨p, h1, ?_⟩)
  have hp := dec_of h2 vD_good vD_enc (by simp)
  subst hp
  refine WP.bd (get_t hDo) (WP.bd (get_t hDo) ?_)
  have g1 : getV vD [97] = (.mk 1 1 [] [] [], true) := by simp [getV, vD, Val.k, Val.l, Val.ks]
  have g2 : getV vD [98] = (zV, false) := by
    have : List.idxOf ([98] : List UInt8) [[97]] = 1 := by decide
    simp [getV, vD, Val.k, Val.l, Val.ks, this]
  rw [g1, g2]
  refine WP.iteN (fun h => absurd rfl h) (fun _ => ?_)
  dsimp only
  rw [show (([108, 105, 45, 51, 101, 50, 58, 97, 98, 101] : List UInt8) == [108, 105, 45, 51, 101, 50, 58, 97, 98, 101]) = true by decide]
  refine WP.iteNb (WP.iteT (WP.iteN (fun h => absurd rfl h) (fun _ => WP.iteNb (WP.iteT (WP.iteF (WP.iteN (fun h => absurd rfl h) (fun _ => WP.iteN (fun h => absurd rfl h) (fun _ => same_then hDo (fun _ => ?_) (fun h => absurd rfl h)))))))))
  refine WP.iteNb (WP.iteT (same_then hDo (fun h => ?_) (fun _ => ?_)))
  · unfold vD at h; injection h with h; exact absurd h (by decide)
  unfold g_law02_sane_j1
  refine WP.iteF (WP.loop (fun i => i ≤ 6) (fun i => 6 - i) ?_ (by omega))
  intro i hi
  unfold g_law02_sane_l3
  dsimp only
  refine WP.iteD (fun hlt => ?_) (fun hlt => ?_)
  · have hlt' : i < 6 := by
      have : ((i : Nat) : Int) < 6 := by simpa using hlt
      omega
    refine WP.gn (by simpa using hlt') fun x hx => ?_
    have hxx : x.length ≤ 20 ∧ ∀ v, good 0 v → enc v ≠ x := by
      have hm := List.mem_of_getElem? hx
      simp only [List.mem_cons, List.not_mem_nil, or_false] at hm
      rcases hm with rfl | rfl | rfl | rfl | rfl | rfl
      · exact ⟨by simp, no1⟩
      · exact ⟨by simp, no2⟩
      · exact ⟨by simp, no3⟩
      · exact ⟨by simp, no4⟩
      · exact ⟨by simp, no5⟩
      · exact ⟨by simp, no6⟩
    refine WP.ck (by omega) (WP.bdPW ((decode_eq (by omega)).mono fun y ⟨p, h1, h2⟩ => ⟨p, h1, ?_⟩))
    rw [dec_none h2 hxx.2]
    refine WP.iteN (fun h => absurd rfl h) (fun _ => WP.ckI (by omega) (WP.ret ⟨by show i + 1 ≤ 6; omega, by show 6 - (i + 1) < 6 - i; omega⟩))
  · unfold g_law02_sane_j2
    refine WP.up (WP.bd (check_eq (v := zV) zV_ok.2.1 zV_ok.1) (WP.ret ?_))
    rw [chk_zV]; rfl
/-- few, with what follows. -/
theorem few_then {l : List Val} (hr : ∀ x ∈ l, rng x) (hl : l.length ≤ 140737488355328) {ρ : Type} {Q : ρ → Prop} {k : Bool → Option ρ} (h1 : WP (k false) Q) (h2 : (∀ x ∈ l, Sm x) → WP (k true) Q) : WP (Go.DL.bd (g_law02_few l) k) Q := by
  refine WP.bdW ((few_eq hr hl).mono fun b hb => ?_)
  cases b with
  | true => exact h2 (hb rfl)
  | false => exact h1
theorem law_EncodeSpec {v : Val} (hv : rng v) : g_law02_CodecEncodeSpec v = some (.inl true) := by
  refine WP.eq ?_
  unfold g_law02_CodecEncodeSpec
  refine WP.bdP sane_eq (WP.iteNb (WP.iteT (few_then (by simpa using hv) (by simp) (WP.iteNb (WP.iteF (WP.ret rfl))) fun hs => WP.iteNb (WP.iteT ?_))))
  have ho := sm_ok (hs v (by simp))
  refine WP.bdP (Encode_eq ho) (WP.bd (rEncode_eq ho) (WP.iteL (fun _ => WP.iteE (fun _ => WP.bd (check_eq ho.2.1 ho.1) (WP.bd (rCheck_eq ho.2.1 ho.1) (WP.ret ?_))) (fun h => absurd rfl h)) (fun h => absurd rfl h)))
  simp
theorem getV_ok {v : Val} {key : List UInt8} (h : Ok v) : Ok (getV v key).1 := by
  have hm : (getV v key).1 = zV ∨ (getV v key).1 ∈ v.l := by
    unfold getV
    split
    · split
      · rename_i x hx
        split
        · exact .inr (List.mem_of_getElem? hx)
        · exact .inl rfl
      · exact .inl rfl
    · exact .inl rfl
  rcases hm with e | e
  · rw [e]; exact zV_ok
  · obtain ⟨h1, h2, h3⟩ := h
    cases v with
    | mk k n s l ks =>
      simp only [rng, rngL_iff] at h1
      simp only [Val.l] at e
      have h4 := cntL_mem e
      simp only [hgt] at h2
      simp only [cnt] at h3
      have h5 := hgtL_le.1 (Nat.le_refl (hgtL l)) _ e
      exact ⟨h1.2.2.2.2.2.2 _ e, by omega, by omega⟩
theorem law_GetSpec {a b : Val} {key : List UInt8} (ha : rng a) (hb : rng b) : g_law02_CodecGetSpec a b key = some (.inl true) := by
  refine WP.eq ?_
  unfold g_law02_CodecGetSpec
  have skip : WP (g_law02_CodecGetSpec_j1 a key b true) fun x => x = .inl true := by
    unfold g_law02_CodecGetSpec_j1
    exact WP.iteT (WP.ret rfl)
  refine WP.bdP sane_eq (WP.iteNb (WP.iteT (few_then (by simpa using ⟨ha, hb⟩) (by simp) (WP.iteNb (WP.iteF skip)) fun hs => WP.iteNb (WP.iteT ?_))))
  cases hk : decide (((key.length : Nat) : Int) > 1000) with
  | true => exact skip
  | false =>
    unfold g_law02_CodecGetSpec_j1
    have hoa := sm_ok (hs a (by simp))
    have hob := sm_ok (hs b (by simp))
    refine WP.iteF (WP.bd (get_t hoa) (WP.bd (rget_t hoa) ?_))
    have rest : ∀ r : Bool, WP (if (r == r) = true then (Go.DL.bd (g_codec_Same 60 a a) fun r_21 => if (r_21) = true then (Go.DL.bd (g_ref02_Same 60 (getV a key).1 (getV a key).1) fun r_24 => if (r_24) = true then (some (.inl ((((getV a key).2) == ((getV a key).2))))) else some (.inl false)) else some (.inl false)) else some (.inl false)) fun (x : Bool ⊕ Unit) => x = .inl true := fun r =>
      WP.iteL (fun _ => same_then hoa (fun _ => WP.iteT (rsame_then (getV_ok hoa) (fun _ => WP.iteT (WP.ret (by simp))) (fun h => absurd rfl h))) (fun h => absurd rfl h)) (fun h => absurd rfl h)
    exact same_then hoa (fun e => rsame_then hoa (fun _ => rest true) (fun h => absurd e h)) (fun e => rsame_then hoa (fun h => absurd h e) (fun _ => rest false))
end Go.Proofs.YtimalbkjflfdoaaDoor

/-
  Go functions as partial functions, printed by auto.py: what each returns when its partial function has a value. Conditions: those of each theorem.
-/
namespace Go.Proofs.YtimalbkjflfdoaaDoor
open Go.DL
set_option maxRecDepth 100000
set_option maxHeartbeats 4000000
set_option linter.unusedVariables false
set_option linter.unusedSimpArgs false
theorem g_law02_CodecGetSpec_ret {a_1 : Val} {b_2 : Val} {key_3 : List UInt8} {r : (Bool) ⊕ Unit} (h : g_law02_CodecGetSpec a_1 b_2 key_3 = some r) : CT Tryd.prog 5 3 [(.agg (qVal a_1)), (.agg (qVal b_2)), (dt (.str key_3))] [(0, (.obj (tabP Tryd.prog))), (1, (.obj (errP 1))), (2, (.obj (errP 2)))] (CoR 3 ghosts (fun x => ((db (x)), [(0, (.obj (tabP Tryd.prog))), (1, (.obj (errP 1))), (2, (.obj (errP 2)))])) (.iface 29 (.int .i64 20)) r) := by
  refine CT.of_T Tryd.func5 (by kernel_rfl) rfl ?_
  refine T_turn [] [0, 1, 2] [] (mk 57 [(0, (.agg (qVal a_1))), (1, (.agg (qVal b_2))), (2, (dt (.str key_3)))] [(0, (.obj (tabP Tryd.prog))), (1, (.obj (errP 1))), (2, (.obj (errP 2)))]) (by kernel_rfl) ?_
  refine T_reg [] [2, 3, 4] [] (mk 57 [(2, (dt (.str key_3))), (3, (rf 6 0)), (4, (rf 7 0))] [(7, (.var (qVal b_2))), (6, (.var (qVal a_1))), (0, (.obj (tabP Tryd.prog))), (1, (.obj (errP 1))), (2, (.obj (errP 2)))]) _ (by kernel_rfl) (z6 zt) ?_
  refine T_seq ?_
  refine T_seq (T_parts ?_)
  obtain ⟨y5, e6, hk7, hz8⟩ := bdP_inv h
  refine TL_ct 10 [0, 1, 2] 100003 _ _ [] (g_law02_sane_ret e6) rfl rfl (by kernel_rfl) (by kernel_rfl) (by kernel_rfl) (by kernel_rfl) (fun l bx' hR => ?_) (fun d bx' hR => ?_)
  obtain ⟨r_4, rfl, rfl, rfl⟩ := CoR_ret hR
  replace h := hk7 _ rfl
  refine TL_turn [] [2, 3, 4, 11] [] (mk 57 [(2, (dt (.str key_3))), (3, (rf 6 0)), (4, (rf 7 0)), (11, (db (r_4)))] [(7, (.var (qVal b_2))), (6, (.var (qVal a_1))), (0, (.obj (tabP Tryd.prog))), (1, (.obj (errP 1))), (2, (.obj (errP 2)))]) (by kernel_rfl) ?_
  refine TL_part 1 [] (mk 57 [(2, (dt (.str key_3))), (3, (rf 6 0)), (4, (rf 7 0)), (11, (db (r_4))), (12, (db (!(r_4))))] [(7, (.var (qVal b_2))), (6, (.var (qVal a_1))), (0, (.obj (tabP Tryd.prog))), (1, (.obj (errP 1))), (2, (.obj (errP 2)))]) _ (by kernel_rfl) (z2 zt) rfl ?_
  refine TL_nilQ ?_
  refine T_turn [] [2, 3, 4, 12] [] (mk 57 [(2, (dt (.str key_3))), (3, (rf 6 0)), (4, (rf 7 0)), (12, (db (!(r_4))))] [(7, (.var (qVal b_2))), (6, (.var (qVal a_1))), (0, (.obj (tabP Tryd.prog))), (1, (.obj (errP 1))), (2, (.obj (errP 2)))]) (by kernel_rfl) ?_
  refine T_cond (!(r_4)) (by kernel_rfl) (fun b9 => ?_) (fun b9 => ?_)
  replace h := ite_t b9 h
  refine T_reg [] [6] [7, 6] (mk 57 [(6, (db false))] [(0, (.obj (tabP Tryd.prog))), (1, (.obj (errP 1))), (2, (.obj (errP 2)))]) _ (by kernel_rfl) (z2 zt) ?_
  refine T_arr [] [6] [] [0, 1, 2] (mk 57 [(6, (db false))] [(0, (.obj (tabP Tryd.prog))), (1, (.obj (errP 1))), (2, (.obj (errP 2)))]) (by kernel_rfl) ?_
  refine T_ret ?_
  obtain rfl := some_inv h
  exact ⟨[(db false)], by kernel_rfl, rfl⟩
  replace h := ite_f b9 h
  refine T_skip ?_
  refine T_seq ?_
  refine T_seqJ (α := Bool) (fun (v_10 : Bool) => (mk 57 [(2, (dt (.str key_3))), (3, (rf 6 0)), (4, (rf 7 0)), (22, (db (v_10)))] [(0, (.obj (tabP Tryd.prog))), (1, (.obj (errP 1))), (2, (.obj (errP 2))), (6, (.var (qVal a_1))), (7, (.var (qVal b_2)))])) (fun (v_10 : Bool) => g_law02_CodecGetSpec_j1 a_1 key_3 b_2 v_10 = some r) (fun v_10 h => ?_) ?_
  refine T_cond (v_10) (by kernel_rfl) (fun b11 => ?_) (fun b11 => ?_)
  replace h := ite_t b11 h
  refine T_reg [] [6] [6, 7] (mk 57 [(6, (db true))] [(0, (.obj (tabP Tryd.prog))), (1, (.obj (errP 1))), (2, (.obj (errP 2)))]) _ (by kernel_rfl) (z2 zt) ?_
  refine T_arr [] [6] [] [0, 1, 2] (mk 57 [(6, (db true))] [(0, (.obj (tabP Tryd.prog))), (1, (.obj (errP 1))), (2, (.obj (errP 2)))]) (by kernel_rfl) ?_
  refine T_ret ?_
  obtain rfl := some_inv h
  exact ⟨[(db true)], by kernel_rfl, rfl⟩
  replace h := ite_f b11 h
  refine T_skip ?_
  obtain ⟨r_12, e13, h⟩ := bd_inv h
  refine T_reg [zn, zn, (zd (.tup [(ndcVal r_12.1), (B (r_12.2))]))] [2, 3, 4, 7, 8] [] (mk 57 [(2, (dt (.str key_3))), (3, (rf 6 0)), (4, (rf 7 0)), (7, (rf 10 0)), (8, (db (r_12.2)))] [(10, (.var (qVal r_12.1))), (0, (.obj (tabP Tryd.prog))), (1, (.obj (errP 1))), (2, (.obj (errP 2))), (6, (.var (qVal a_1))), (7, (.var (qVal b_2)))]) _ (by kernel_rfl) (z5 (zc (g_codec_Get_ret e13) (z8 (z4 zt)))) ?_
  obtain ⟨r_14, e15, h⟩ := bd_inv h
  refine T_reg [zn, zn, (zd (.tup [(ndcVal r_14.1), (B (r_14.2))]))] [3, 4, 7, 8, 9, 10] [] (mk 57 [(3, (rf 6 0)), (4, (rf 7 0)), (7, (rf 10 0)), (8, (db (r_12.2))), (9, (rf 12 0)), (10, (db (r_14.2)))] [(12, (.var (qVal r_14.1))), (10, (.var (qVal r_12.1))), (0, (.obj (tabP Tryd.prog))), (1, (.obj (errP 1))), (2, (.obj (errP 2))), (6, (.var (qVal a_1))), (7, (.var (qVal b_2)))]) _ (by kernel_rfl) (z5 (zc (g_ref02_Get_ret e15) (z8 (z4 zt)))) ?_
  obtain ⟨r_16, e17, h⟩ := bd_inv h
  obtain ⟨r_18, e19, h⟩ := bd_inv h
  rcases Bool.eq_false_or_eq_true (((r_16) == (r_18))) with b20 | b20
  replace h := ite_t b20 h
  obtain ⟨r_21, e22, h⟩ := bd_inv h
  rcases Bool.eq_false_or_eq_true (r_21) with b23 | b23
  replace h := ite_t b23 h
  obtain ⟨r_24, e25, h⟩ := bd_inv h
  rcases Bool.eq_false_or_eq_true (r_24) with b26 | b26
  replace h := ite_t b26 h
  refine T_regD 23 (hl 22 [(2, (zd (B (r_16)))), (5, (zd (B (r_18)))), (10, (zd (B (r_21)))), (11, (zd (B true))), (15, (zd (B (r_24)))), (16, (zd (B true))), (21, (zd (B true)))]) [6] [12, 10, 6, 7] (mk 57 [(6, (db (((r_12.2) == (r_14.2)))))] [(0, (.obj (tabP Tryd.prog))), (1, (.obj (errP 1))), (2, (.obj (errP 2)))]) _ (by kernel_rfl) (by kernel_rfl) (by kernel_rfl) (zc (z5 (zc (g_codec_Same_ret e17) (z5 (zc (g_ref02_Same_ret e19) (z4 (zc (gd_tt b20) (z1 (zc (gd_tt b20) (z1 (zc (gd_tt b20) (zc (g_codec_Same_ret e22) (z1 (zc b20 (z2 (zc (gd_tt b23) (z1 (zc (gd_tt b23) (z1 (zc (gd_tt b23) (zc (g_ref02_Same_ret e25) (z1 (zc b23 (z2 (zc (gd_tt b26) (z1 (zc (gd_tt b26) (z1 (zc (gd_tt b26) (z2 (zc b26 (z2 zt))))))))))))))))))))))))))))))) zt) ?_
  refine T_arr [] [6] [] [0, 1, 2] (mk 57 [(6, (db (((r_12.2) == (r_14.2)))))] [(0, (.obj (tabP Tryd.prog))), (1, (.obj (errP 1))), (2, (.obj (errP 2)))]) (by kernel_rfl) ?_
  refine T_ret ?_
  obtain rfl := some_inv h
  exact ⟨[(db (((r_12.2) == (r_14.2))))], by kernel_rfl, rfl⟩
  replace h := ite_f b26 h
  refine T_regD 23 [zn, zn, (zd (B (r_16))), zn, zn, (zd (B (r_18))), zn, zn, zn, zn, (zd (B (r_21))), (zd (B true)), zn, zn, zn, (zd (B (r_24))), (zd (B true)), zn, zg, zg, zg, (zd (B false))] [6] [12, 10, 6, 7] (mk 57 [(6, (db false))] [(0, (.obj (tabP Tryd.prog))), (1, (.obj (errP 1))), (2, (.obj (errP 2)))]) _ (by kernel_rfl) (by kernel_rfl) (by kernel_rfl) (zc (z5 (zc (g_codec_Same_ret e17) (z5 (zc (g_ref02_Same_ret e19) (z4 (zc (gd_tt b20) (z1 (zc (gd_tt b20) (z1 (zc (gd_tt b20) (zc (g_codec_Same_ret e22) (z1 (zc b20 (z2 (zc (gd_tt b23) (z1 (zc (gd_tt b23) (z1 (zc (gd_tt b23) (zc (g_ref02_Same_ret e25) (z1 (zc b23 (z2 (zc (gd_ft b26) (zc (gd_ft b26) (zc (gd_ft b26) (z1 (zc b26 (z2 zt))))))))))))))))))))))))))))) zt) ?_
  refine T_arr [] [6] [] [0, 1, 2] (mk 57 [(6, (db false))] [(0, (.obj (tabP Tryd.prog))), (1, (.obj (errP 1))), (2, (.obj (errP 2)))]) (by kernel_rfl) ?_
  refine T_ret ?_
  obtain rfl := some_inv h
  exact ⟨[(db false)], by kernel_rfl, rfl⟩
  replace h := ite_f b23 h
  refine T_regD 23 [zn, zn, (zd (B (r_16))), zn, zn, (zd (B (r_18))), zn, zn, zn, zn, (zd (B (r_21))), (zd (B true)), zn, zg, zg, zg, (zd (B false)), zn, zg, zg, zg, (zd (B false))] [6] [12, 10, 6, 7] (mk 57 [(6, (db false))] [(0, (.obj (tabP Tryd.prog))), (1, (.obj (errP 1))), (2, (.obj (errP 2)))]) _ (by kernel_rfl) (by kernel_rfl) (by kernel_rfl) (zc (z5 (zc (g_codec_Same_ret e17) (z5 (zc (g_ref02_Same_ret e19) (z4 (zc (gd_tt b20) (z1 (zc (gd_tt b20) (z1 (zc (gd_tt b20) (zc (g_codec_Same_ret e22) (z1 (zc b20 (z2 (zc (gd_ft b23) (zc (gd_ft b23) (zc (gd_ft b23) (z1 (zc b23 (z2 (zc (gd_ft (rfl : false = false)) (zc (gd_ft (rfl : false = false)) (zc (gd_ft (rfl : false = false)) (z1 (zc (rfl : false = false) (z2 zt)))))))))))))))))))))))))) zt) ?_
  refine T_arr [] [6] [] [0, 1, 2] (mk 57 [(6, (db false))] [(0, (.obj (tabP Tryd.prog))), (1, (.obj (errP 1))), (2, (.obj (errP 2)))]) (by kernel_rfl) ?_
  refine T_ret ?_
  obtain rfl := some_inv h
  exact ⟨[(db false)], by kernel_rfl, rfl⟩
  replace h := ite_f b20 h
  refine T_regD 23 [zn, zn, (zd (B (r_16))), zn, zn, (zd (B (r_18))), zn, zn, zg, zg, zg, (zd (B false)), zn, zg, zg, zg, (zd (B false)), zn, zg, zg, zg, (zd (B false))] [6] [12, 10, 6, 7] (mk 57 [(6, (db false))] [(0, (.obj (tabP Tryd.prog))), (1, (.obj (errP 1))), (2, (.obj (errP 2)))]) _ (by kernel_rfl) (by kernel_rfl) (by kernel_rfl) (zc (z5 (zc (g_codec_Same_ret e17) (z5 (zc (g_ref02_Same_ret e19) (z4 (zc (gd_ft b20) (zc (gd_ft b20) (zc (gd_ft b20) (z1 (zc b20 (z2 (zc (gd_ft (rfl : false = false)) (zc (gd_ft (rfl : false = false)) (zc (gd_ft (rfl : false = false)) (z1 (zc (rfl : false = false) (z2 (zc (gd_ft (rfl : false = false)) (zc (gd_ft (rfl : false = false)) (zc (gd_ft (rfl : false = false)) (z1 (zc (rfl : false = false) (z2 zt))))))))))))))))))))))) zt) ?_
  refine T_arr [] [6] [] [0, 1, 2] (mk 57 [(6, (db false))] [(0, (.obj (tabP Tryd.prog))), (1, (.obj (errP 1))), (2, (.obj (errP 2)))]) (by kernel_rfl) ?_
  refine T_ret ?_
  obtain rfl := some_inv h
  exact ⟨[(db false)], by kernel_rfl, rfl⟩
  refine T_parts ?_
  refine TL_part 2 [] (mk 57 [(2, (dt (.str key_3))), (3, (rf 6 0)), (4, (rf 7 0)), (12, (db (!(r_4)))), (13, (.agg (qVal a_1))), (14, (.agg (qVal b_2)))] [(7, (.var (qVal b_2))), (6, (.var (qVal a_1))), (0, (.obj (tabP Tryd.prog))), (1, (.obj (errP 1))), (2, (.obj (errP 2)))]) _ (by kernel_rfl) (z4 zt) rfl ?_
  refine TL_part 1 [] (mk 57 [(2, (dt (.str key_3))), (3, (rf 6 0)), (4, (rf 7 0)), (12, (db (!(r_4)))), (13, (.agg (qVal a_1))), (14, (.agg (qVal b_2))), (15, (ow 18))] [(18, (.row 25 5 [ndcVal a_1, ndcVal b_2])), (7, (.var (qVal b_2))), (6, (.var (qVal a_1))), (0, (.obj (tabP Tryd.prog))), (1, (.obj (errP 1))), (2, (.obj (errP 2)))]) _ (by kernel_rfl) (z1 (zc (show dfill (fun i => some (i * 5, 5)) (List.replicate (2 * 5) .junk) [(0, [(.dat (I a_1.k)), (.dat (I a_1.n)), (.dat (.str a_1.s)), (.dat (.sl 5 (a_1.l.map encVal))), (.dat (.sl 1 (a_1.ks.map elStr)))]), (1, [(.dat (I b_2.k)), (.dat (I b_2.n)), (.dat (.str b_2.s)), (.dat (.sl 5 (b_2.l.map encVal))), (.dat (.sl 1 (b_2.ks.map elStr)))])] = some ((flat [ndcVal a_1, ndcVal b_2]).map .dat) from rfl) zt)) rfl ?_
  refine TL_turn [] [2, 3, 4, 12, 13, 14, 15] [] (mk 57 [(2, (dt (.str key_3))), (3, (rf 6 0)), (4, (rf 7 0)), (12, (db (!(r_4)))), (13, (.agg (qVal a_1))), (14, (.agg (qVal b_2))), (15, (ow 18))] [(18, (.row 25 5 ([a_1, b_2].map encVal))), (7, (.var (qVal b_2))), (6, (.var (qVal a_1))), (0, (.obj (tabP Tryd.prog))), (1, (.obj (errP 1))), (2, (.obj (errP 2)))]) (by rw [show [a_1, b_2].map encVal = [ndcVal a_1, ndcVal b_2] from by simp only [List.map_cons, List.map_nil, encVal_nd]]; kernel_rfl) ?_
  obtain ⟨r_27, e28, h⟩ := bd_inv h
  rcases Bool.eq_false_or_eq_true (!(r_27)) with b29 | b29
  replace h := ite_t b29 h
  refine TL_part 7 [(zd (B (r_27))), zn, zn, zg, zg, zg, (zd (B true))] (mk 57 [(2, (dt (.str key_3))), (3, (rf 6 0)), (4, (rf 7 0)), (12, (db (!(r_4)))), (13, (.agg (qVal a_1))), (14, (.agg (qVal b_2))), (15, (ow 18)), (16, (db (r_27))), (17, (db (!(r_27)))), (18, (db (!(r_27)))), (19, (dt (.tup []))), (20, (dt (.tup []))), (21, (dt (.tup []))), (22, (db true))] [(18, (.row 25 5 ([a_1, b_2].map encVal))), (7, (.var (qVal b_2))), (6, (.var (qVal a_1))), (0, (.obj (tabP Tryd.prog))), (1, (.obj (errP 1))), (2, (.obj (errP 2)))]) _ (by kernel_rfl) (z1 (zc (g_law02_few_ret e28) (z4 (zc (gd_tf b29) (zc (gd_tf b29) (zc (gd_tf b29) (z1 (zc b29 zt)))))))) rfl ?_
  refine TL_nilQ ?_
  exact Exists.intro true (And.intro h (arr [] [2, 3, 4, 22] [18] [0, 1, 2, 6, 7] (by kernel_rfl)))
  replace h := ite_f b29 h
  refine TL_part 7 (hl 7 [(0, (zd (B (r_27)))), (6, (zd (B false)))]) (mk 57 [(2, (dt (.str key_3))), (3, (rf 6 0)), (4, (rf 7 0)), (12, (db (!(r_4)))), (13, (.agg (qVal a_1))), (14, (.agg (qVal b_2))), (15, (ow 18)), (16, (db (r_27))), (17, (db (!(r_27)))), (18, (db (!(r_27)))), (19, (dt (.str key_3))), (20, (di ((key_3.length : Nat) : Int))), (21, (db (decide (((key_3.length : Nat) : Int) > 1000)))), (22, (db (decide (((key_3.length : Nat) : Int) > 1000))))] [(18, (.row 25 5 ([a_1, b_2].map encVal))), (7, (.var (qVal b_2))), (6, (.var (qVal a_1))), (0, (.obj (tabP Tryd.prog))), (1, (.obj (errP 1))), (2, (.obj (errP 2)))]) _ (by kernel_rfl) (z1 (zc (g_law02_few_ret e28) (z4 (zc (gd_ff b29) (z1 (zc (gd_ff b29) (z1 (zc (gd_ff b29) (z2 (zc b29 zt)))))))))) rfl ?_
  refine TL_nilQ ?_
  exact Exists.intro (decide (((key_3.length : Nat) : Int) > 1000)) (And.intro h (arr [] [2, 3, 4, 22] [18] [0, 1, 2, 6, 7] (by kernel_rfl)))
  obtain ⟨rfl, rfl, hlk⟩ := CoR_pan hR
  replace h := hz8 rfl
  obtain rfl := some_inv h
  exact (show _ ∧ _ from ⟨rfl, ⟨_, rfl, lk3 ((after_lk (by kernel_rfl) rfl).trans (by rw [hlk 0 (by decide)]; kernel_rfl)) ((after_lk (by kernel_rfl) rfl).trans (by rw [hlk 1 (by decide)]; kernel_rfl)) ((after_lk (by kernel_rfl) rfl).trans (by rw [hlk 2 (by decide)]; kernel_rfl))⟩⟩)

theorem g_law02_CodecRoundTrip_ret {v_1 : Val} {raw_2 : List UInt8} {r : (Bool) ⊕ Unit} (h : g_law02_CodecRoundTrip v_1 raw_2 = some r) : CT Tryd.prog 6 3 [(.agg (qVal v_1)), (dt (.sl 1 (raw_2.map elB)))] [(0, (.obj (tabP Tryd.prog))), (1, (.obj (errP 1))), (2, (.obj (errP 2)))] (CoR 3 ghosts (fun x => ((db (x)), [(0, (.obj (tabP Tryd.prog))), (1, (.obj (errP 1))), (2, (.obj (errP 2)))])) (.iface 29 (.int .i64 20)) r) := by
  refine CT.of_T Tryd.func6 (by kernel_rfl) rfl ?_
  refine T_turn [] [0, 1] [] (mk 87 [(0, (.agg (qVal v_1))), (1, (dt (.sl 1 (raw_2.map elB))))] [(0, (.obj (tabP Tryd.prog))), (1, (.obj (errP 1))), (2, (.obj (errP 2)))]) (by kernel_rfl) ?_
  refine T_reg [] [1, 2] [] (mk 87 [(1, (dt (.sl 1 (raw_2.map elB)))), (2, (rf 5 0))] [(5, (.var (qVal v_1))), (0, (.obj (tabP Tryd.prog))), (1, (.obj (errP 1))), (2, (.obj (errP 2)))]) _ (by kernel_rfl) (z4 zt) ?_
  refine T_seq ?_
  refine T_seq (T_parts ?_)
  obtain ⟨y4, e5, hk6, hz7⟩ := bdP_inv h
  refine TL_ct 10 [0, 1, 2] 100003 _ _ [] (g_law02_sane_ret e5) rfl rfl (by kernel_rfl) (by kernel_rfl) (by kernel_rfl) (by kernel_rfl) (fun l bx' hR => ?_) (fun d bx' hR => ?_)
  obtain ⟨r_3, rfl, rfl, rfl⟩ := CoR_ret hR
  replace h := hk6 _ rfl
  refine TL_turn [] [1, 2, 13] [] (mk 87 [(1, (dt (.sl 1 (raw_2.map elB)))), (2, (rf 5 0)), (13, (db (r_3)))] [(5, (.var (qVal v_1))), (0, (.obj (tabP Tryd.prog))), (1, (.obj (errP 1))), (2, (.obj (errP 2)))]) (by kernel_rfl) ?_
  refine TL_part 1 [] (mk 87 [(1, (dt (.sl 1 (raw_2.map elB)))), (2, (rf 5 0)), (13, (db (r_3))), (14, (db (!(r_3))))] [(5, (.var (qVal v_1))), (0, (.obj (tabP Tryd.prog))), (1, (.obj (errP 1))), (2, (.obj (errP 2)))]) _ (by kernel_rfl) (z2 zt) rfl ?_
  refine TL_nilQ ?_
  refine T_turn [] [1, 2, 14] [] (mk 87 [(1, (dt (.sl 1 (raw_2.map elB)))), (2, (rf 5 0)), (14, (db (!(r_3))))] [(5, (.var (qVal v_1))), (0, (.obj (tabP Tryd.prog))), (1, (.obj (errP 1))), (2, (.obj (errP 2)))]) (by kernel_rfl) ?_
  refine T_cond (!(r_3)) (by kernel_rfl) (fun b8 => ?_) (fun b8 => ?_)
  replace h := ite_t b8 h
  refine T_reg [] [4] [5] (mk 87 [(4, (db false))] [(0, (.obj (tabP Tryd.prog))), (1, (.obj (errP 1))), (2, (.obj (errP 2)))]) _ (by kernel_rfl) (z2 zt) ?_
  refine T_arr [] [4] [] [0, 1, 2] (mk 87 [(4, (db false))] [(0, (.obj (tabP Tryd.prog))), (1, (.obj (errP 1))), (2, (.obj (errP 2)))]) (by kernel_rfl) ?_
  refine T_ret ?_
  obtain rfl := some_inv h
  exact ⟨[(db false)], by kernel_rfl, rfl⟩
  replace h := ite_f b8 h
  refine T_skip ?_
  refine T_seq ?_
  refine T_seqJ (α := Bool) (fun (v_9 : Bool) => (mk 87 [(1, (dt (.sl 1 (raw_2.map elB)))), (2, (rf 5 0)), (23, (db (v_9)))] [(0, (.obj (tabP Tryd.prog))), (1, (.obj (errP 1))), (2, (.obj (errP 2))), (5, (.var (qVal v_1)))])) (fun (v_9 : Bool) => g_law02_CodecRoundTrip_j1 v_1 raw_2 v_9 = some r) (fun v_9 h => ?_) ?_
  refine T_cond (v_9) (by kernel_rfl) (fun b10 => ?_) (fun b10 => ?_)
  replace h := ite_t b10 h
  refine T_reg [] [4] [5] (mk 87 [(4, (db true))] [(0, (.obj (tabP Tryd.prog))), (1, (.obj (errP 1))), (2, (.obj (errP 2)))]) _ (by kernel_rfl) (z2 zt) ?_
  refine T_arr [] [4] [] [0, 1, 2] (mk 87 [(4, (db true))] [(0, (.obj (tabP Tryd.prog))), (1, (.obj (errP 1))), (2, (.obj (errP 2)))]) (by kernel_rfl) ?_
  refine T_ret ?_
  obtain rfl := some_inv h
  exact ⟨[(db true)], by kernel_rfl, rfl⟩
  replace h := ite_f b10 h
  refine T_skip ?_
  refine T_seq (T_parts ?_)
  refine TL_part 1 [] (mk 87 [(1, (dt (.sl 1 (raw_2.map elB)))), (2, (rf 5 0)), (23, (db (v_9))), (25, (.agg (qVal v_1)))] [(0, (.obj (tabP Tryd.prog))), (1, (.obj (errP 1))), (2, (.obj (errP 2))), (5, (.var (qVal v_1)))]) _ (by kernel_rfl) (z2 zt) rfl ?_
  obtain ⟨y12, e13, hk14, hz15⟩ := bdP_inv h
  refine TL_ct 12 [0, 1, 2] 100003 _ _ [] (g_codec_Encode_ret e13) rfl rfl (by kernel_rfl) (by kernel_rfl) (by kernel_rfl) (by kernel_rfl) (fun l bx' hR => ?_) (fun d bx' hR => ?_)
  obtain ⟨r_11, rfl, rfl, rfl⟩ := CoR_ret hR
  replace h := hk14 _ rfl
  refine TL_turn [] [1, 2, 26] [] (mk 87 [(1, (dt (.sl 1 (raw_2.map elB)))), (2, (rf 5 0)), (26, (.tup [(false, [(.dat (.sl 1 (r_11.1.map elB)))]), (false, [(.dat (I r_11.2))])]))] [(5, (.var (qVal v_1))), (0, (.obj (tabP Tryd.prog))), (1, (.obj (errP 1))), (2, (.obj (errP 2)))]) (by kernel_rfl) ?_
  refine TL_part 5 [] (mk 87 [(1, (dt (.sl 1 (raw_2.map elB)))), (2, (rf 5 0)), (5, (dt (.sl 1 (r_11.1.map elB)))), (6, (di r_11.2)), (24, (.tup [(false, [(.dat (.sl 1 (r_11.1.map elB)))]), (false, [(.dat (I r_11.2))])])), (26, (.tup [(false, [(.dat (.sl 1 (r_11.1.map elB)))]), (false, [(.dat (I r_11.2))])])), (27, (dt (.sl 1 (r_11.1.map elB)))), (28, (di r_11.2))] [(5, (.var (qVal v_1))), (0, (.obj (tabP Tryd.prog))), (1, (.obj (errP 1))), (2, (.obj (errP 2)))]) _ (by kernel_rfl) (z8 (z2 zt)) rfl ?_
  refine TL_nilQ ?_
  refine T_turn [] [1, 2, 5, 6] [] (mk 87 [(1, (dt (.sl 1 (raw_2.map elB)))), (2, (rf 5 0)), (5, (dt (.sl 1 (r_11.1.map elB)))), (6, (di r_11.2))] [(5, (.var (qVal v_1))), (0, (.obj (tabP Tryd.prog))), (1, (.obj (errP 1))), (2, (.obj (errP 2)))]) (by kernel_rfl) ?_
  refine T_seq ?_
  obtain ⟨r_16, e17, h⟩ := bd_inv h
  refine T_reg [zn, zn, (zd (I r_16))] [1, 2, 5, 6, 32] [] (mk 87 [(1, (dt (.sl 1 (raw_2.map elB)))), (2, (rf 5 0)), (5, (dt (.sl 1 (r_11.1.map elB)))), (6, (di r_11.2)), (32, (db (r_11.2 != r_16)))] [(5, (.var (qVal v_1))), (0, (.obj (tabP Tryd.prog))), (1, (.obj (errP 1))), (2, (.obj (errP 2)))]) _ (by kernel_rfl) (z5 (zc (g_codec_Check_ret e17) (z2 zt))) ?_
  refine T_cond (r_11.2 != r_16) (by kernel_rfl) (fun b18 => ?_) (fun b18 => ?_)
  replace h := ite_t b18 h
  refine T_reg [] [4] [5] (mk 87 [(4, (db false))] [(0, (.obj (tabP Tryd.prog))), (1, (.obj (errP 1))), (2, (.obj (errP 2)))]) _ (by kernel_rfl) (z2 zt) ?_
  refine T_arr [] [4] [] [0, 1, 2] (mk 87 [(4, (db false))] [(0, (.obj (tabP Tryd.prog))), (1, (.obj (errP 1))), (2, (.obj (errP 2)))]) (by kernel_rfl) ?_
  refine T_ret ?_
  obtain rfl := some_inv h
  exact ⟨[(db false)], by kernel_rfl, rfl⟩
  replace h := ite_f b18 h
  refine T_skip ?_
  refine T_seqJ (α := Unit) (fun (_ : Unit) => (mk 87 [(1, (dt (.sl 1 (raw_2.map elB))))] [(0, (.obj (tabP Tryd.prog))), (1, (.obj (errP 1))), (2, (.obj (errP 2)))])) (fun (_ : Unit) => g_law02_CodecRoundTrip_j2 raw_2 = some r) (fun v h => ?_) ?_
  refine T_seq (T_parts ?_)
  refine TL_part 1 [] (mk 87 [(1, (dt (.sl 1 (raw_2.map elB)))), (55, (dt (.sl 1 (raw_2.map elB))))] [(0, (.obj (tabP Tryd.prog))), (1, (.obj (errP 1))), (2, (.obj (errP 2)))]) _ (by kernel_rfl) (z2 zt) rfl ?_
  obtain ⟨y20, e21, hk22, hz23⟩ := bdP_inv h
  refine TL_ct 16 [0, 1, 2] 100003 _ _ [] (g_codec_Decode_ret e21) rfl rfl (by kernel_rfl) (by kernel_rfl) (by kernel_rfl) (by kernel_rfl) (fun l bx' hR => ?_) (fun d bx' hR => ?_)
  obtain ⟨r_19, rfl, rfl, rfl⟩ := CoR_ret hR
  replace h := hk22 _ rfl
  refine TL_turn [] [1, 56] [] (mk 87 [(1, (dt (.sl 1 (raw_2.map elB)))), (56, (.tup [(true, (qVal r_19.1)), (false, [(.dat (I r_19.2))])]))] [(0, (.obj (tabP Tryd.prog))), (1, (.obj (errP 1))), (2, (.obj (errP 2)))]) (by kernel_rfl) ?_
  refine TL_part 6 [] (mk 87 [(1, (dt (.sl 1 (raw_2.map elB)))), (9, (rf 12 0)), (10, (di r_19.2)), (54, (.tup [(true, (qVal r_19.1)), (false, [(.dat (I r_19.2))])])), (56, (.tup [(true, (qVal r_19.1)), (false, [(.dat (I r_19.2))])])), (57, (.agg (qVal r_19.1))), (58, (di r_19.2))] [(12, (.var (qVal r_19.1))), (0, (.obj (tabP Tryd.prog))), (1, (.obj (errP 1))), (2, (.obj (errP 2)))]) _ (by kernel_rfl) (z8 (z4 zt)) rfl ?_
  refine TL_nilQ ?_
  refine T_turn [] [1, 9, 10] [] (mk 87 [(1, (dt (.sl 1 (raw_2.map elB)))), (9, (rf 12 0)), (10, (di r_19.2))] [(12, (.var (qVal r_19.1))), (0, (.obj (tabP Tryd.prog))), (1, (.obj (errP 1))), (2, (.obj (errP 2)))]) (by kernel_rfl) ?_
  refine T_seq ?_
  refine T_reg [] [1, 9, 10, 60] [] (mk 87 [(1, (dt (.sl 1 (raw_2.map elB)))), (9, (rf 12 0)), (10, (di r_19.2)), (60, (db (r_19.2 != 0)))] [(12, (.var (qVal r_19.1))), (0, (.obj (tabP Tryd.prog))), (1, (.obj (errP 1))), (2, (.obj (errP 2)))]) _ (by kernel_rfl) (z4 zt) ?_
  refine T_cond (r_19.2 != 0) (by kernel_rfl) (fun b24 => ?_) (fun b24 => ?_)
  replace h := ite_t b24 h
  rcases Bool.eq_false_or_eq_true (r_19.2 == 20) with b25 | b25
  replace h := ite_t b25 h
  obtain ⟨r_26, e27, h⟩ := bd_inv h
  refine T_reg (hl 7 [(5, (zd (B (r_26)))), (6, (zd (B true)))]) [4] [12] (mk 87 [(4, (db (r_26)))] [(0, (.obj (tabP Tryd.prog))), (1, (.obj (errP 1))), (2, (.obj (errP 2)))]) _ (by kernel_rfl) (z6 (zc (gd_tt b25) (z1 (zc (gd_tt b25) (z1 (zc (gd_tt b25) (zc (show Ret Tryd.prog 21 [(ndcVal r_19.1), (.agg [(I 0), (I 0), (.str ([] : List UInt8)), nilS, nilS])] (B (r_26)) from (Ret.weak (g_codec_Same_ret e27) ⟨Weak.refl _, (Weak.agg ⟨Weak.refl _, Weak.refl _, Weak.refl _, Weak.nil 5, Weak.nil 1, trivial⟩), trivial⟩)) (z1 (zc b25 (z2 zt)))))))))) ?_
  refine T_arr [] [4] [] [0, 1, 2] (mk 87 [(4, (db (r_26)))] [(0, (.obj (tabP Tryd.prog))), (1, (.obj (errP 1))), (2, (.obj (errP 2)))]) (by kernel_rfl) ?_
  refine T_ret ?_
  obtain rfl := some_inv h
  exact ⟨[(db (r_26))], by kernel_rfl, rfl⟩
  replace h := ite_f b25 h
  refine T_reg [zn, zn, zn, zg, zg, zg, (zd (B false))] [4] [12] (mk 87 [(4, (db false))] [(0, (.obj (tabP Tryd.prog))), (1, (.obj (errP 1))), (2, (.obj (errP 2)))]) _ (by kernel_rfl) (z6 (zc (gd_ft b25) (zc (gd_ft b25) (zc (gd_ft b25) (z1 (zc b25 (z2 zt))))))) ?_
  refine T_arr [] [4] [] [0, 1, 2] (mk 87 [(4, (db false))] [(0, (.obj (tabP Tryd.prog))), (1, (.obj (errP 1))), (2, (.obj (errP 2)))]) (by kernel_rfl) ?_
  refine T_ret ?_
  obtain rfl := some_inv h
  exact ⟨[(db false)], by kernel_rfl, rfl⟩
  replace h := ite_f b24 h
  refine T_skip ?_
  refine T_seq (T_parts ?_)
  refine TL_part 1 [] (mk 87 [(1, (dt (.sl 1 (raw_2.map elB)))), (9, (rf 12 0)), (10, (di r_19.2)), (60, (db (r_19.2 != 0))), (69, (.agg (qVal r_19.1)))] [(12, (.var (qVal r_19.1))), (0, (.obj (tabP Tryd.prog))), (1, (.obj (errP 1))), (2, (.obj (errP 2)))]) _ (by kernel_rfl) (z2 zt) rfl ?_
  obtain ⟨y29, e30, hk31, hz32⟩ := bdP_inv h
  refine TL_ct 12 [0, 1, 2] 100003 _ _ [] (g_codec_Encode_ret e30) rfl rfl (by kernel_rfl) (by kernel_rfl) (by kernel_rfl) (by kernel_rfl) (fun l bx' hR => ?_) (fun d bx' hR => ?_)
  obtain ⟨r_28, rfl, rfl, rfl⟩ := CoR_ret hR
  replace h := hk31 _ rfl
  refine TL_turn [] [1, 9, 70] [] (mk 87 [(1, (dt (.sl 1 (raw_2.map elB)))), (9, (rf 12 0)), (70, (.tup [(false, [(.dat (.sl 1 (r_28.1.map elB)))]), (false, [(.dat (I r_28.2))])]))] [(12, (.var (qVal r_19.1))), (0, (.obj (tabP Tryd.prog))), (1, (.obj (errP 1))), (2, (.obj (errP 2)))]) (by kernel_rfl) ?_
  refine TL_part 5 [] (mk 87 [(1, (dt (.sl 1 (raw_2.map elB)))), (9, (rf 12 0)), (11, (dt (.sl 1 (r_28.1.map elB)))), (12, (di r_28.2)), (68, (.tup [(false, [(.dat (.sl 1 (r_28.1.map elB)))]), (false, [(.dat (I r_28.2))])])), (70, (.tup [(false, [(.dat (.sl 1 (r_28.1.map elB)))]), (false, [(.dat (I r_28.2))])])), (71, (dt (.sl 1 (r_28.1.map elB)))), (72, (di r_28.2))] [(12, (.var (qVal r_19.1))), (0, (.obj (tabP Tryd.prog))), (1, (.obj (errP 1))), (2, (.obj (errP 2)))]) _ (by kernel_rfl) (z8 (z2 zt)) rfl ?_
  refine TL_nilQ ?_
  refine T_turn [] [1, 9, 11, 12] [] (mk 87 [(1, (dt (.sl 1 (raw_2.map elB)))), (9, (rf 12 0)), (11, (dt (.sl 1 (r_28.1.map elB)))), (12, (di r_28.2))] [(12, (.var (qVal r_19.1))), (0, (.obj (tabP Tryd.prog))), (1, (.obj (errP 1))), (2, (.obj (errP 2)))]) (by kernel_rfl) ?_
  rcases Bool.eq_false_or_eq_true (r_28.2 == 0) with b33 | b33
  replace h := ite_t b33 h
  rcases Bool.eq_false_or_eq_true (r_28.1 == raw_2) with b34 | b34
  replace h := ite_t b34 h
  obtain ⟨r_35, e36, h⟩ := bd_inv h
  refine T_reg (hl 14 [(4, (zd (.str r_28.1))), (6, (zd (.str raw_2))), (8, (zd (B true))), (11, (zd (I r_35))), (13, (zd (B true)))]) [4] [12] (mk 87 [(4, (db (r_35 == 0)))] [(0, (.obj (tabP Tryd.prog))), (1, (.obj (errP 1))), (2, (.obj (errP 2)))]) _ (by kernel_rfl) (z6 (zc (gd_tt b33) (z1 (zc (gd_tt b33) (zc (rfl : r_28.1.map elB = r_28.1.map elB) (zc (gd_tt b33) (z1 (zc (gd_tt b33) (zc (rfl : raw_2.map elB = raw_2.map elB) (zc (gd_tt b33) (z2 (zc b33 (z2 (zc (gd_tt b34) (z1 (zc (gd_tt b34) (zc (g_codec_Check_ret e36) (zc (gd_tt b34) (z2 (zc b34 (z2 zt))))))))))))))))))))) ?_
  refine T_arr [] [4] [] [0, 1, 2] (mk 87 [(4, (db (r_35 == 0)))] [(0, (.obj (tabP Tryd.prog))), (1, (.obj (errP 1))), (2, (.obj (errP 2)))]) (by kernel_rfl) ?_
  refine T_ret ?_
  obtain rfl := some_inv h
  exact ⟨[(db (r_35 == 0))], by kernel_rfl, rfl⟩
  replace h := ite_f b34 h
  refine T_reg [zn, zn, zn, zn, (zd (.str r_28.1)), zn, (zd (.str raw_2)), zn, (zd (B true)), zn, zg, zg, zg, (zd (B false))] [4] [12] (mk 87 [(4, (db false))] [(0, (.obj (tabP Tryd.prog))), (1, (.obj (errP 1))), (2, (.obj (errP 2)))]) _ (by kernel_rfl) (z6 (zc (gd_tt b33) (z1 (zc (gd_tt b33) (zc (rfl : r_28.1.map elB = r_28.1.map elB) (zc (gd_tt b33) (z1 (zc (gd_tt b33) (zc (rfl : raw_2.map elB = raw_2.map elB) (zc (gd_tt b33) (z2 (zc b33 (z2 (zc (gd_ft b34) (zc (gd_ft b34) (zc (gd_ft b34) (z1 (zc b34 (z2 zt))))))))))))))))))) ?_
  refine T_arr [] [4] [] [0, 1, 2] (mk 87 [(4, (db false))] [(0, (.obj (tabP Tryd.prog))), (1, (.obj (errP 1))), (2, (.obj (errP 2)))]) (by kernel_rfl) ?_
  refine T_ret ?_
  obtain rfl := some_inv h
  exact ⟨[(db false)], by kernel_rfl, rfl⟩
  replace h := ite_f b33 h
  refine T_reg [zn, zn, zn, zg, zg, zg, zg, zg, (zd (B false)), zn, zg, zg, zg, (zd (B false))] [4] [12] (mk 87 [(4, (db false))] [(0, (.obj (tabP Tryd.prog))), (1, (.obj (errP 1))), (2, (.obj (errP 2)))]) _ (by kernel_rfl) (z6 (zc (gd_ft b33) (zc (gd_ft b33) (zc (gd_ft b33) (zc (gd_ft b33) (zc (gd_ft b33) (z1 (zc b33 (z2 (zc (gd_ft (rfl : false = false)) (zc (gd_ft (rfl : false = false)) (zc (gd_ft (rfl : false = false)) (z1 (zc (rfl : false = false) (z2 zt))))))))))))))) ?_
  refine T_arr [] [4] [] [0, 1, 2] (mk 87 [(4, (db false))] [(0, (.obj (tabP Tryd.prog))), (1, (.obj (errP 1))), (2, (.obj (errP 2)))]) (by kernel_rfl) ?_
  refine T_ret ?_
  obtain rfl := some_inv h
  exact ⟨[(db false)], by kernel_rfl, rfl⟩
  obtain ⟨rfl, rfl, hlk⟩ := CoR_pan hR
  replace h := hz32 rfl
  obtain rfl := some_inv h
  exact (show _ ∧ _ from ⟨rfl, ⟨_, rfl, lk3 ((after_lk (by kernel_rfl) rfl).trans (by rw [hlk 0 (by decide)]; kernel_rfl)) ((after_lk (by kernel_rfl) rfl).trans (by rw [hlk 1 (by decide)]; kernel_rfl)) ((after_lk (by kernel_rfl) rfl).trans (by rw [hlk 2 (by decide)]; kernel_rfl))⟩⟩)
  obtain ⟨rfl, rfl, hlk⟩ := CoR_pan hR
  replace h := hz23 rfl
  obtain rfl := some_inv h
  exact (show _ ∧ _ from ⟨rfl, ⟨_, rfl, lk3 ((after_lk (by kernel_rfl) rfl).trans (by rw [hlk 0 (by decide)]; kernel_rfl)) ((after_lk (by kernel_rfl) rfl).trans (by rw [hlk 1 (by decide)]; kernel_rfl)) ((after_lk (by kernel_rfl) rfl).trans (by rw [hlk 2 (by decide)]; kernel_rfl))⟩⟩)
  refine T_reg [] [1, 2, 5, 34] [] (mk 87 [(1, (dt (.sl 1 (raw_2.map elB)))), (2, (rf 5 0)), (5, (dt (.sl 1 (r_11.1.map elB)))), (34, (db (r_11.2 == 0)))] [(5, (.var (qVal v_1))), (0, (.obj (tabP Tryd.prog))), (1, (.obj (errP 1))), (2, (.obj (errP 2)))]) _ (by kernel_rfl) (z4 zt) ?_
  refine T_cond (r_11.2 == 0) (by kernel_rfl) (fun b37 => ?_) (fun b37 => ?_)
  replace h := ite_t b37 h
  refine T_seq (T_parts ?_)
  refine TL_part 1 [] (mk 87 [(1, (dt (.sl 1 (raw_2.map elB)))), (2, (rf 5 0)), (5, (dt (.sl 1 (r_11.1.map elB)))), (34, (db (r_11.2 == 0))), (36, (dt (.sl 1 (r_11.1.map elB))))] [(5, (.var (qVal v_1))), (0, (.obj (tabP Tryd.prog))), (1, (.obj (errP 1))), (2, (.obj (errP 2)))]) _ (by kernel_rfl) (z2 zt) rfl ?_
  obtain ⟨y39, e40, hk41, hz42⟩ := bdP_inv h
  refine TL_ct 16 [0, 1, 2] 100003 _ _ [] (g_codec_Decode_ret e40) rfl rfl (by kernel_rfl) (by kernel_rfl) (by kernel_rfl) (by kernel_rfl) (fun l bx' hR => ?_) (fun d bx' hR => ?_)
  obtain ⟨r_38, rfl, rfl, rfl⟩ := CoR_ret hR
  replace h := hk41 _ rfl
  refine TL_turn [] [1, 2, 37] [] (mk 87 [(1, (dt (.sl 1 (raw_2.map elB)))), (2, (rf 5 0)), (37, (.tup [(true, (qVal r_38.1)), (false, [(.dat (I r_38.2))])]))] [(5, (.var (qVal v_1))), (0, (.obj (tabP Tryd.prog))), (1, (.obj (errP 1))), (2, (.obj (errP 2)))]) (by kernel_rfl) ?_
  refine TL_part 6 [] (mk 87 [(1, (dt (.sl 1 (raw_2.map elB)))), (2, (rf 5 0)), (7, (rf 10 0)), (8, (di r_38.2)), (35, (.tup [(true, (qVal r_38.1)), (false, [(.dat (I r_38.2))])])), (37, (.tup [(true, (qVal r_38.1)), (false, [(.dat (I r_38.2))])])), (38, (.agg (qVal r_38.1))), (39, (di r_38.2))] [(10, (.var (qVal r_38.1))), (5, (.var (qVal v_1))), (0, (.obj (tabP Tryd.prog))), (1, (.obj (errP 1))), (2, (.obj (errP 2)))]) _ (by kernel_rfl) (z8 (z4 zt)) rfl ?_
  refine TL_nilQ ?_
  refine T_turn [] [1, 2, 7, 8] [] (mk 87 [(1, (dt (.sl 1 (raw_2.map elB)))), (2, (rf 5 0)), (7, (rf 10 0)), (8, (di r_38.2))] [(10, (.var (qVal r_38.1))), (5, (.var (qVal v_1))), (0, (.obj (tabP Tryd.prog))), (1, (.obj (errP 1))), (2, (.obj (errP 2)))]) (by kernel_rfl) ?_
  refine T_seqJ (α := Bool) (fun (v_43 : Bool) => (mk 87 [(1, (dt (.sl 1 (raw_2.map elB)))), (53, (db (v_43)))] [(0, (.obj (tabP Tryd.prog))), (1, (.obj (errP 1))), (2, (.obj (errP 2)))])) (fun (v_43 : Bool) => g_law02_CodecRoundTrip_j3 raw_2 v_43 = some r) (fun v_43 h => ?_) ?_
  refine T_cond (v_43) (by kernel_rfl) (fun b44 => ?_) (fun b44 => ?_)
  replace h := ite_t b44 h
  refine T_reg [] [4] [] (mk 87 [(4, (db false))] [(0, (.obj (tabP Tryd.prog))), (1, (.obj (errP 1))), (2, (.obj (errP 2)))]) _ (by kernel_rfl) (z2 zt) ?_
  refine T_arr [] [4] [] [0, 1, 2] (mk 87 [(4, (db false))] [(0, (.obj (tabP Tryd.prog))), (1, (.obj (errP 1))), (2, (.obj (errP 2)))]) (by kernel_rfl) ?_
  refine T_ret ?_
  obtain rfl := some_inv h
  exact ⟨[(db false)], by kernel_rfl, rfl⟩
  replace h := ite_f b44 h
  refine T_skip ?_
  exact Exists.intro () (And.intro h (arr [] [1] [] [0, 1, 2] (by kernel_rfl)))
  rcases Bool.eq_false_or_eq_true (r_38.2 != 0) with b45 | b45
  replace h := ite_t b45 h
  exact T_regJ [zn, zn, zn, zg, zg, zg, zg, (zd (B true)), zn, zg, zg, zg, zg, (zd (B true))] [] [1, 53] [10, 5] [0, 1, 2] _ _ (by kernel_rfl) (z6 (zc (gd_tf b45) (zc (gd_tf b45) (zc (gd_tf b45) (zc (gd_tf b45) (z1 (zc b45 (z2 (zc (gd_tf (rfl : true = true)) (zc (gd_tf (rfl : true = true)) (zc (gd_tf (rfl : true = true)) (zc (gd_tf (rfl : true = true)) (z1 (zc (rfl : true = true) zt)))))))))))))) (fun s hs => Exists.intro true (And.intro h hs))
  replace h := ite_f b45 h
  obtain ⟨r_46, e47, h⟩ := bd_inv h
  rcases Bool.eq_false_or_eq_true (!(r_46)) with b48 | b48
  replace h := ite_t b48 h
  exact T_regJ [zn, zn, zn, zn, zn, (zd (B (r_46))), zn, (zd (B false)), zn, zg, zg, zg, zg, (zd (B true))] [] [1, 53] [10, 5] [0, 1, 2] _ _ (by kernel_rfl) (z6 (zc (gd_ff b45) (z1 (zc (gd_ff b45) (z1 (zc (gd_ff b45) (zc (g_codec_Same_ret e47) (zc (gd_ff b45) (z2 (zc b45 (z2 (zc (gd_tf b48) (zc (gd_tf b48) (zc (gd_tf b48) (zc (gd_tf b48) (z1 (zc b48 zt))))))))))))))))) (fun s hs => Exists.intro true (And.intro h hs))
  replace h := ite_f b48 h
  obtain ⟨r_49, e50, h⟩ := bd_inv h
  exact T_regJ (hl 14 [(5, (zd (B (r_46)))), (7, (zd (B false))), (11, (zd (B (r_49)))), (13, (zd (B false)))]) [] [1, 53] [10, 5] [0, 1, 2] _ _ (by kernel_rfl) (z6 (zc (gd_ff b45) (z1 (zc (gd_ff b45) (z1 (zc (gd_ff b45) (zc (g_codec_Same_ret e47) (zc (gd_ff b45) (z2 (zc b45 (z2 (zc (gd_ff b48) (z1 (zc (gd_ff b48) (z1 (zc (gd_ff b48) (zc (g_ref02_Same_ret e50) (zc (gd_ff b48) (z2 (zc b48 zt)))))))))))))))))))) (fun s hs => Exists.intro (!(r_49)) (And.intro h hs))
  obtain ⟨rfl, rfl, hlk⟩ := CoR_pan hR
  replace h := hz42 rfl
  obtain rfl := some_inv h
  exact (show _ ∧ _ from ⟨rfl, ⟨_, rfl, lk3 ((after_lk (by kernel_rfl) rfl).trans (by rw [hlk 0 (by decide)]; kernel_rfl)) ((after_lk (by kernel_rfl) rfl).trans (by rw [hlk 1 (by decide)]; kernel_rfl)) ((after_lk (by kernel_rfl) rfl).trans (by rw [hlk 2 (by decide)]; kernel_rfl))⟩⟩)
  replace h := ite_f b37 h
  refine T_skip ?_
  exact Exists.intro () (And.intro h (arr [] [1] [5] [0, 1, 2] (by kernel_rfl)))
  obtain ⟨rfl, rfl, hlk⟩ := CoR_pan hR
  replace h := hz15 rfl
  obtain rfl := some_inv h
  exact (show _ ∧ _ from ⟨rfl, ⟨_, rfl, lk3 ((after_lk (by kernel_rfl) rfl).trans (by rw [hlk 0 (by decide)]; kernel_rfl)) ((after_lk (by kernel_rfl) rfl).trans (by rw [hlk 1 (by decide)]; kernel_rfl)) ((after_lk (by kernel_rfl) rfl).trans (by rw [hlk 2 (by decide)]; kernel_rfl))⟩⟩)
  refine T_parts ?_
  refine TL_part 1 [] (mk 87 [(1, (dt (.sl 1 (raw_2.map elB)))), (2, (rf 5 0)), (14, (db (!(r_3)))), (15, (.agg (qVal v_1)))] [(5, (.var (qVal v_1))), (0, (.obj (tabP Tryd.prog))), (1, (.obj (errP 1))), (2, (.obj (errP 2)))]) _ (by kernel_rfl) (z2 zt) rfl ?_
  refine TL_part 1 [] (mk 87 [(1, (dt (.sl 1 (raw_2.map elB)))), (2, (rf 5 0)), (14, (db (!(r_3)))), (15, (.agg (qVal v_1))), (16, (ow 19))] [(19, (.row 25 5 [ndcVal v_1])), (5, (.var (qVal v_1))), (0, (.obj (tabP Tryd.prog))), (1, (.obj (errP 1))), (2, (.obj (errP 2)))]) _ (by kernel_rfl) (z1 (zc (show dfill (fun i => some (i * 5, 5)) (List.replicate (1 * 5) .junk) [(0, [(.dat (I v_1.k)), (.dat (I v_1.n)), (.dat (.str v_1.s)), (.dat (.sl 5 (v_1.l.map encVal))), (.dat (.sl 1 (v_1.ks.map elStr)))])] = some ((flat [ndcVal v_1]).map .dat) from rfl) zt)) rfl ?_
  refine TL_turn [] [1, 2, 14, 15, 16] [] (mk 87 [(1, (dt (.sl 1 (raw_2.map elB)))), (2, (rf 5 0)), (14, (db (!(r_3)))), (15, (.agg (qVal v_1))), (16, (ow 19))] [(19, (.row 25 5 ([v_1].map encVal))), (5, (.var (qVal v_1))), (0, (.obj (tabP Tryd.prog))), (1, (.obj (errP 1))), (2, (.obj (errP 2)))]) (by rw [show [v_1].map encVal = [ndcVal v_1] from by simp only [List.map_cons, List.map_nil, encVal_nd]]; kernel_rfl) ?_
  obtain ⟨r_51, e52, h⟩ := bd_inv h
  rcases Bool.eq_false_or_eq_true (!(r_51)) with b53 | b53
  replace h := ite_t b53 h
  refine TL_part 7 [(zd (B (r_51))), zn, zn, zg, zg, zg, (zd (B true))] (mk 87 [(1, (dt (.sl 1 (raw_2.map elB)))), (2, (rf 5 0)), (14, (db (!(r_3)))), (15, (.agg (qVal v_1))), (16, (ow 19)), (17, (db (r_51))), (18, (db (!(r_51)))), (19, (db (!(r_51)))), (20, (dt (.tup []))), (21, (dt (.tup []))), (22, (dt (.tup []))), (23, (db true))] [(19, (.row 25 5 ([v_1].map encVal))), (5, (.var (qVal v_1))), (0, (.obj (tabP Tryd.prog))), (1, (.obj (errP 1))), (2, (.obj (errP 2)))]) _ (by kernel_rfl) (z1 (zc (g_law02_few_ret e52) (z4 (zc (gd_tf b53) (zc (gd_tf b53) (zc (gd_tf b53) (z1 (zc b53 zt)))))))) rfl ?_
  refine TL_nilQ ?_
  exact Exists.intro true (And.intro h (arr [] [1, 2, 23] [19] [0, 1, 2, 5] (by kernel_rfl)))
  replace h := ite_f b53 h
  refine TL_part 7 [(zd (B (r_51))), zn, zn, zn, (zd (I ((raw_2.length : Nat) : Int))), zn, (zd (B false))] (mk 87 [(1, (dt (.sl 1 (raw_2.map elB)))), (2, (rf 5 0)), (14, (db (!(r_3)))), (15, (.agg (qVal v_1))), (16, (ow 19)), (17, (db (r_51))), (18, (db (!(r_51)))), (19, (db (!(r_51)))), (20, (dt (.sl 1 (raw_2.map elB)))), (21, (di ((raw_2.length : Nat) : Int))), (22, (db (decide (((raw_2.length : Nat) : Int) > 2000)))), (23, (db (decide (((raw_2.length : Nat) : Int) > 2000))))] [(19, (.row 25 5 ([v_1].map encVal))), (5, (.var (qVal v_1))), (0, (.obj (tabP Tryd.prog))), (1, (.obj (errP 1))), (2, (.obj (errP 2)))]) _ (by kernel_rfl) (z1 (zc (g_law02_few_ret e52) (z4 (zc (gd_ff b53) (z1 (zc (gd_ff b53) (zc (len_s elB raw_2) (zc (gd_ff b53) (z2 (zc b53 zt)))))))))) rfl ?_
  refine TL_nilQ ?_
  exact Exists.intro (decide (((raw_2.length : Nat) : Int) > 2000)) (And.intro h (arr [] [1, 2, 23] [19] [0, 1, 2, 5] (by kernel_rfl)))
  obtain ⟨rfl, rfl, hlk⟩ := CoR_pan hR
  replace h := hz7 rfl
  obtain rfl := some_inv h
  exact (show _ ∧ _ from ⟨rfl, ⟨_, rfl, lk3 ((after_lk (by kernel_rfl) rfl).trans (by rw [hlk 0 (by decide)]; kernel_rfl)) ((after_lk (by kernel_rfl) rfl).trans (by rw [hlk 1 (by decide)]; kernel_rfl)) ((after_lk (by kernel_rfl) rfl).trans (by rw [hlk 2 (by decide)]; kernel_rfl))⟩⟩)

theorem g_law02_CodecDifferent_ret {v_1 : Val} {w_2 : Val} {r : (Bool) ⊕ Unit} (h : g_law02_CodecDifferent v_1 w_2 = some r) : CT Tryd.prog 7 3 [(.agg (qVal v_1)), (.agg (qVal w_2))] [(0, (.obj (tabP Tryd.prog))), (1, (.obj (errP 1))), (2, (.obj (errP 2)))] (CoR 3 ghosts (fun x => ((db (x)), [(0, (.obj (tabP Tryd.prog))), (1, (.obj (errP 1))), (2, (.obj (errP 2)))])) (.iface 29 (.int .i64 20)) r) := by
  refine CT.of_T Tryd.func7 (by kernel_rfl) rfl ?_
  refine T_turn [] [0, 1] [] (mk 55 [(0, (.agg (qVal v_1))), (1, (.agg (qVal w_2)))] [(0, (.obj (tabP Tryd.prog))), (1, (.obj (errP 1))), (2, (.obj (errP 2)))]) (by kernel_rfl) ?_
  refine T_reg [] [2, 3] [] (mk 55 [(2, (rf 5 0)), (3, (rf 6 0))] [(6, (.var (qVal w_2))), (5, (.var (qVal v_1))), (0, (.obj (tabP Tryd.prog))), (1, (.obj (errP 1))), (2, (.obj (errP 2)))]) _ (by kernel_rfl) (z6 zt) ?_
  refine T_seq ?_
  refine T_seq (T_parts ?_)
  obtain ⟨y4, e5, hk6, hz7⟩ := bdP_inv h
  refine TL_ct 10 [0, 1, 2] 100003 _ _ [] (g_law02_sane_ret e5) rfl rfl (by kernel_rfl) (by kernel_rfl) (by kernel_rfl) (by kernel_rfl) (fun l bx' hR => ?_) (fun d bx' hR => ?_)
  obtain ⟨r_3, rfl, rfl, rfl⟩ := CoR_ret hR
  replace h := hk6 _ rfl
  refine TL_turn [] [2, 3, 10] [] (mk 55 [(2, (rf 5 0)), (3, (rf 6 0)), (10, (db (r_3)))] [(6, (.var (qVal w_2))), (5, (.var (qVal v_1))), (0, (.obj (tabP Tryd.prog))), (1, (.obj (errP 1))), (2, (.obj (errP 2)))]) (by kernel_rfl) ?_
  refine TL_part 1 [] (mk 55 [(2, (rf 5 0)), (3, (rf 6 0)), (10, (db (r_3))), (11, (db (!(r_3))))] [(6, (.var (qVal w_2))), (5, (.var (qVal v_1))), (0, (.obj (tabP Tryd.prog))), (1, (.obj (errP 1))), (2, (.obj (errP 2)))]) _ (by kernel_rfl) (z2 zt) rfl ?_
  refine TL_nilQ ?_
  refine T_turn [] [2, 3, 11] [] (mk 55 [(2, (rf 5 0)), (3, (rf 6 0)), (11, (db (!(r_3))))] [(6, (.var (qVal w_2))), (5, (.var (qVal v_1))), (0, (.obj (tabP Tryd.prog))), (1, (.obj (errP 1))), (2, (.obj (errP 2)))]) (by kernel_rfl) ?_
  refine T_cond (!(r_3)) (by kernel_rfl) (fun b8 => ?_) (fun b8 => ?_)
  replace h := ite_t b8 h
  refine T_reg [] [4] [6, 5] (mk 55 [(4, (db false))] [(0, (.obj (tabP Tryd.prog))), (1, (.obj (errP 1))), (2, (.obj (errP 2)))]) _ (by kernel_rfl) (z2 zt) ?_
  refine T_arr [] [4] [] [0, 1, 2] (mk 55 [(4, (db false))] [(0, (.obj (tabP Tryd.prog))), (1, (.obj (errP 1))), (2, (.obj (errP 2)))]) (by kernel_rfl) ?_
  refine T_ret ?_
  obtain rfl := some_inv h
  exact ⟨[(db false)], by kernel_rfl, rfl⟩
  replace h := ite_f b8 h
  refine T_skip ?_
  refine T_seq ?_
  refine T_seq (T_parts ?_)
  refine TL_part 2 [] (mk 55 [(2, (rf 5 0)), (3, (rf 6 0)), (11, (db (!(r_3)))), (12, (.agg (qVal v_1))), (13, (.agg (qVal w_2)))] [(6, (.var (qVal w_2))), (5, (.var (qVal v_1))), (0, (.obj (tabP Tryd.prog))), (1, (.obj (errP 1))), (2, (.obj (errP 2)))]) _ (by kernel_rfl) (z4 zt) rfl ?_
  refine TL_part 1 [] (mk 55 [(2, (rf 5 0)), (3, (rf 6 0)), (11, (db (!(r_3)))), (12, (.agg (qVal v_1))), (13, (.agg (qVal w_2))), (14, (ow 17))] [(17, (.row 25 5 [ndcVal v_1, ndcVal w_2])), (6, (.var (qVal w_2))), (5, (.var (qVal v_1))), (0, (.obj (tabP Tryd.prog))), (1, (.obj (errP 1))), (2, (.obj (errP 2)))]) _ (by kernel_rfl) (z1 (zc (show dfill (fun i => some (i * 5, 5)) (List.replicate (2 * 5) .junk) [(0, [(.dat (I v_1.k)), (.dat (I v_1.n)), (.dat (.str v_1.s)), (.dat (.sl 5 (v_1.l.map encVal))), (.dat (.sl 1 (v_1.ks.map elStr)))]), (1, [(.dat (I w_2.k)), (.dat (I w_2.n)), (.dat (.str w_2.s)), (.dat (.sl 5 (w_2.l.map encVal))), (.dat (.sl 1 (w_2.ks.map elStr)))])] = some ((flat [ndcVal v_1, ndcVal w_2]).map .dat) from rfl) zt)) rfl ?_
  refine TL_turn [] [2, 3, 11, 12, 13, 14] [] (mk 55 [(2, (rf 5 0)), (3, (rf 6 0)), (11, (db (!(r_3)))), (12, (.agg (qVal v_1))), (13, (.agg (qVal w_2))), (14, (ow 17))] [(17, (.row 25 5 ([v_1, w_2].map encVal))), (6, (.var (qVal w_2))), (5, (.var (qVal v_1))), (0, (.obj (tabP Tryd.prog))), (1, (.obj (errP 1))), (2, (.obj (errP 2)))]) (by rw [show [v_1, w_2].map encVal = [ndcVal v_1, ndcVal w_2] from by simp only [List.map_cons, List.map_nil, encVal_nd]]; kernel_rfl) ?_
  obtain ⟨r_9, e10, h⟩ := bd_inv h
  refine TL_part 2 [(zd (B (r_9)))] (mk 55 [(2, (rf 5 0)), (3, (rf 6 0)), (11, (db (!(r_3)))), (12, (.agg (qVal v_1))), (13, (.agg (qVal w_2))), (14, (ow 17)), (15, (db (r_9))), (16, (db (!(r_9))))] [(17, (.row 25 5 ([v_1, w_2].map encVal))), (6, (.var (qVal w_2))), (5, (.var (qVal v_1))), (0, (.obj (tabP Tryd.prog))), (1, (.obj (errP 1))), (2, (.obj (errP 2)))]) _ (by kernel_rfl) (z1 (zc (g_law02_few_ret e10) (z2 zt))) rfl ?_
  refine TL_nilQ ?_
  refine T_turn [] [2, 3, 16] [17] (mk 55 [(2, (rf 5 0)), (3, (rf 6 0)), (16, (db (!(r_9))))] [(6, (.var (qVal w_2))), (5, (.var (qVal v_1))), (0, (.obj (tabP Tryd.prog))), (1, (.obj (errP 1))), (2, (.obj (errP 2)))]) (by kernel_rfl) ?_
  refine T_cond (!(r_9)) (by kernel_rfl) (fun b11 => ?_) (fun b11 => ?_)
  replace h := ite_t b11 h
  refine T_reg [] [4] [6, 5] (mk 55 [(4, (db true))] [(0, (.obj (tabP Tryd.prog))), (1, (.obj (errP 1))), (2, (.obj (errP 2)))]) _ (by kernel_rfl) (z2 zt) ?_
  refine T_arr [] [4] [] [0, 1, 2] (mk 55 [(4, (db true))] [(0, (.obj (tabP Tryd.prog))), (1, (.obj (errP 1))), (2, (.obj (errP 2)))]) (by kernel_rfl) ?_
  refine T_ret ?_
  obtain rfl := some_inv h
  exact ⟨[(db true)], by kernel_rfl, rfl⟩
  replace h := ite_f b11 h
  refine T_skip ?_
  refine T_seq (T_parts ?_)
  refine TL_part 1 [] (mk 55 [(2, (rf 5 0)), (3, (rf 6 0)), (16, (db (!(r_9)))), (18, (.agg (qVal v_1)))] [(6, (.var (qVal w_2))), (5, (.var (qVal v_1))), (0, (.obj (tabP Tryd.prog))), (1, (.obj (errP 1))), (2, (.obj (errP 2)))]) _ (by kernel_rfl) (z2 zt) rfl ?_
  obtain ⟨y13, e14, hk15, hz16⟩ := bdP_inv h
  refine TL_ct 12 [0, 1, 2] 100003 _ _ [] (g_codec_Encode_ret e14) rfl rfl (by kernel_rfl) (by kernel_rfl) (by kernel_rfl) (by kernel_rfl) (fun l bx' hR => ?_) (fun d bx' hR => ?_)
  obtain ⟨r_12, rfl, rfl, rfl⟩ := CoR_ret hR
  replace h := hk15 _ rfl
  refine TL_turn [] [2, 3, 19] [] (mk 55 [(2, (rf 5 0)), (3, (rf 6 0)), (19, (.tup [(false, [(.dat (.sl 1 (r_12.1.map elB)))]), (false, [(.dat (I r_12.2))])]))] [(6, (.var (qVal w_2))), (5, (.var (qVal v_1))), (0, (.obj (tabP Tryd.prog))), (1, (.obj (errP 1))), (2, (.obj (errP 2)))]) (by kernel_rfl) ?_
  refine TL_part 5 [] (mk 55 [(2, (rf 5 0)), (3, (rf 6 0)), (5, (dt (.sl 1 (r_12.1.map elB)))), (6, (di r_12.2)), (17, (.tup [(false, [(.dat (.sl 1 (r_12.1.map elB)))]), (false, [(.dat (I r_12.2))])])), (19, (.tup [(false, [(.dat (.sl 1 (r_12.1.map elB)))]), (false, [(.dat (I r_12.2))])])), (20, (dt (.sl 1 (r_12.1.map elB)))), (21, (di r_12.2))] [(6, (.var (qVal w_2))), (5, (.var (qVal v_1))), (0, (.obj (tabP Tryd.prog))), (1, (.obj (errP 1))), (2, (.obj (errP 2)))]) _ (by kernel_rfl) (z8 (z2 zt)) rfl ?_
  refine TL_nilQ ?_
  refine T_turn [] [2, 3, 5, 6] [] (mk 55 [(2, (rf 5 0)), (3, (rf 6 0)), (5, (dt (.sl 1 (r_12.1.map elB)))), (6, (di r_12.2))] [(6, (.var (qVal w_2))), (5, (.var (qVal v_1))), (0, (.obj (tabP Tryd.prog))), (1, (.obj (errP 1))), (2, (.obj (errP 2)))]) (by kernel_rfl) ?_
  refine T_seq (T_parts ?_)
  refine TL_part 1 [] (mk 55 [(2, (rf 5 0)), (3, (rf 6 0)), (5, (dt (.sl 1 (r_12.1.map elB)))), (6, (di r_12.2)), (23, (.agg (qVal w_2)))] [(6, (.var (qVal w_2))), (5, (.var (qVal v_1))), (0, (.obj (tabP Tryd.prog))), (1, (.obj (errP 1))), (2, (.obj (errP 2)))]) _ (by kernel_rfl) (z2 zt) rfl ?_
  obtain ⟨y18, e19, hk20, hz21⟩ := bdP_inv h
  refine TL_ct 12 [0, 1, 2] 100003 _ _ [] (g_codec_Encode_ret e19) rfl rfl (by kernel_rfl) (by kernel_rfl) (by kernel_rfl) (by kernel_rfl) (fun l bx' hR => ?_) (fun d bx' hR => ?_)
  obtain ⟨r_17, rfl, rfl, rfl⟩ := CoR_ret hR
  replace h := hk20 _ rfl
  refine TL_turn [] [2, 3, 5, 6, 24] [] (mk 55 [(2, (rf 5 0)), (3, (rf 6 0)), (5, (dt (.sl 1 (r_12.1.map elB)))), (6, (di r_12.2)), (24, (.tup [(false, [(.dat (.sl 1 (r_17.1.map elB)))]), (false, [(.dat (I r_17.2))])]))] [(6, (.var (qVal w_2))), (5, (.var (qVal v_1))), (0, (.obj (tabP Tryd.prog))), (1, (.obj (errP 1))), (2, (.obj (errP 2)))]) (by kernel_rfl) ?_
  refine TL_part 5 [] (mk 55 [(2, (rf 5 0)), (3, (rf 6 0)), (5, (dt (.sl 1 (r_12.1.map elB)))), (6, (di r_12.2)), (7, (dt (.sl 1 (r_17.1.map elB)))), (8, (di r_17.2)), (22, (.tup [(false, [(.dat (.sl 1 (r_17.1.map elB)))]), (false, [(.dat (I r_17.2))])])), (24, (.tup [(false, [(.dat (.sl 1 (r_17.1.map elB)))]), (false, [(.dat (I r_17.2))])])), (25, (dt (.sl 1 (r_17.1.map elB)))), (26, (di r_17.2))] [(6, (.var (qVal w_2))), (5, (.var (qVal v_1))), (0, (.obj (tabP Tryd.prog))), (1, (.obj (errP 1))), (2, (.obj (errP 2)))]) _ (by kernel_rfl) (z8 (z2 zt)) rfl ?_
  refine TL_nilQ ?_
  refine T_turn [] [2, 3, 5, 6, 7, 8] [] (mk 55 [(2, (rf 5 0)), (3, (rf 6 0)), (5, (dt (.sl 1 (r_12.1.map elB)))), (6, (di r_12.2)), (7, (dt (.sl 1 (r_17.1.map elB)))), (8, (di r_17.2))] [(6, (.var (qVal w_2))), (5, (.var (qVal v_1))), (0, (.obj (tabP Tryd.prog))), (1, (.obj (errP 1))), (2, (.obj (errP 2)))]) (by kernel_rfl) ?_
  refine T_seq ?_
  refine T_seqJ (α := Bool) (fun (v_22 : Bool) => (mk 55 [(2, (rf 5 0)), (3, (rf 6 0)), (5, (dt (.sl 1 (r_12.1.map elB)))), (7, (dt (.sl 1 (r_17.1.map elB)))), (32, (db (v_22)))] [(0, (.obj (tabP Tryd.prog))), (1, (.obj (errP 1))), (2, (.obj (errP 2))), (5, (.var (qVal v_1))), (6, (.var (qVal w_2)))])) (fun (v_22 : Bool) => g_law02_CodecDifferent_j1 v_1 w_2 r_12 r_17 v_22 = some r) (fun v_22 h => ?_) ?_
  refine T_cond (v_22) (by kernel_rfl) (fun b23 => ?_) (fun b23 => ?_)
  replace h := ite_t b23 h
  refine T_reg [] [4] [5, 6] (mk 55 [(4, (db true))] [(0, (.obj (tabP Tryd.prog))), (1, (.obj (errP 1))), (2, (.obj (errP 2)))]) _ (by kernel_rfl) (z2 zt) ?_
  refine T_arr [] [4] [] [0, 1, 2] (mk 55 [(4, (db true))] [(0, (.obj (tabP Tryd.prog))), (1, (.obj (errP 1))), (2, (.obj (errP 2)))]) (by kernel_rfl) ?_
  refine T_ret ?_
  obtain rfl := some_inv h
  exact ⟨[(db true)], by kernel_rfl, rfl⟩
  replace h := ite_f b23 h
  refine T_skip ?_
  refine T_seq ?_
  obtain ⟨r_24, e25, h⟩ := bd_inv h
  refine T_reg [zn, zn, (zd (B (r_24)))] [5, 7, 35] [5, 6] (mk 55 [(5, (dt (.sl 1 (r_12.1.map elB)))), (7, (dt (.sl 1 (r_17.1.map elB)))), (35, (db (r_24)))] [(0, (.obj (tabP Tryd.prog))), (1, (.obj (errP 1))), (2, (.obj (errP 2)))]) _ (by kernel_rfl) (z5 (zc (g_codec_Same_ret e25) zt)) ?_
  refine T_cond (r_24) (by kernel_rfl) (fun b26 => ?_) (fun b26 => ?_)
  replace h := ite_t b26 h
  refine T_reg [zn, (zd (.str r_12.1)), zn, (zd (.str r_17.1))] [4] [] (mk 55 [(4, (db (r_12.1 == r_17.1)))] [(0, (.obj (tabP Tryd.prog))), (1, (.obj (errP 1))), (2, (.obj (errP 2)))]) _ (by kernel_rfl) (z3 (zc (rfl : r_12.1.map elB = r_12.1.map elB) (z3 (zc (rfl : r_17.1.map elB = r_17.1.map elB) (z4 zt))))) ?_
  refine T_arr [] [4] [] [0, 1, 2] (mk 55 [(4, (db (r_12.1 == r_17.1)))] [(0, (.obj (tabP Tryd.prog))), (1, (.obj (errP 1))), (2, (.obj (errP 2)))]) (by kernel_rfl) ?_
  refine T_ret ?_
  obtain rfl := some_inv h
  exact ⟨[(db (r_12.1 == r_17.1))], by kernel_rfl, rfl⟩
  replace h := ite_f b26 h
  refine T_skip ?_
  refine T_reg [zn, (zd (I ((r_12.1.length : Nat) : Int))), zn, (zd (I ((r_17.1.length : Nat) : Int)))] [5, 7, 9] [] (mk 55 [(5, (dt (.sl 1 (r_12.1.map elB)))), (7, (dt (.sl 1 (r_17.1.map elB)))), (9, (di (if ((r_17.1.length : Nat) : Int) < ((r_12.1.length : Nat) : Int) then ((r_17.1.length : Nat) : Int) else ((r_12.1.length : Nat) : Int))))] [(0, (.obj (tabP Tryd.prog))), (1, (.obj (errP 1))), (2, (.obj (errP 2)))]) _ (by kernel_rfl) (z3 (zc (len_s elB r_12.1) (z3 (zc (len_s elB r_17.1) (z4 zt))))) ?_
  obtain ⟨s_27, e28, h⟩ := sb_inv 1 elB h
  obtain ⟨s_29, e30, h⟩ := sb_inv 1 elB h
  refine T_regD 10 [zn, zn, (zd (.sl 1 (s_27.map elB))), (zd (.str s_27)), zn, zn, (zd (.sl 1 (s_29.map elB))), (zd (.str s_29))] [4] [] (mk 55 [(4, (db (!(s_27 == s_29))))] [(0, (.obj (tabP Tryd.prog))), (1, (.obj (errP 1))), (2, (.obj (errP 2)))]) _ (by kernel_rfl) (by kernel_rfl) (by kernel_rfl) (zc (z5 (zc e28 (z1 (zc (rfl : s_27.map elB = s_27.map elB) (z5 (zc e30 (z1 (zc (rfl : s_29.map elB = s_29.map elB) (z4 zt))))))))) zt) ?_
  refine T_arr [] [4] [] [0, 1, 2] (mk 55 [(4, (db (!(s_27 == s_29))))] [(0, (.obj (tabP Tryd.prog))), (1, (.obj (errP 1))), (2, (.obj (errP 2)))]) (by kernel_rfl) ?_
  refine T_ret ?_
  obtain rfl := some_inv h
  exact ⟨[(db (!(s_27 == s_29)))], by kernel_rfl, rfl⟩
  rcases Bool.eq_false_or_eq_true (r_12.2 != 0) with b31 | b31
  replace h := ite_t b31 h
  exact T_regJ [zn, zn, zn, zg, zg, (zd (B true))] [] [2, 3, 5, 7, 32] [] [0, 1, 2, 5, 6] _ _ (by kernel_rfl) (z6 (zc (gd_tf b31) (zc (gd_tf b31) (z1 (zc b31 zt))))) (fun s hs => Exists.intro true (And.intro h hs))
  replace h := ite_f b31 h
  exact T_regJ (hl 6 [(5, (zd (B false)))]) [] [2, 3, 5, 7, 32] [] [0, 1, 2, 5, 6] _ _ (by kernel_rfl) (z6 (zc (gd_ff b31) (z1 (zc (gd_ff b31) (z2 (zc b31 zt)))))) (fun s hs => Exists.intro (r_17.2 != 0) (And.intro h hs))
  obtain ⟨rfl, rfl, hlk⟩ := CoR_pan hR
  replace h := hz21 rfl
  obtain rfl := some_inv h
  exact (show _ ∧ _ from ⟨rfl, ⟨_, rfl, lk3 ((after_lk (by kernel_rfl) rfl).trans (by rw [hlk 0 (by decide)]; kernel_rfl)) ((after_lk (by kernel_rfl) rfl).trans (by rw [hlk 1 (by decide)]; kernel_rfl)) ((after_lk (by kernel_rfl) rfl).trans (by rw [hlk 2 (by decide)]; kernel_rfl))⟩⟩)
  obtain ⟨rfl, rfl, hlk⟩ := CoR_pan hR
  replace h := hz16 rfl
  obtain rfl := some_inv h
  exact (show _ ∧ _ from ⟨rfl, ⟨_, rfl, lk3 ((after_lk (by kernel_rfl) rfl).trans (by rw [hlk 0 (by decide)]; kernel_rfl)) ((after_lk (by kernel_rfl) rfl).trans (by rw [hlk 1 (by decide)]; kernel_rfl)) ((after_lk (by kernel_rfl) rfl).trans (by rw [hlk 2 (by decide)]; kernel_rfl))⟩⟩)
  obtain ⟨rfl, rfl, hlk⟩ := CoR_pan hR
  replace h := hz7 rfl
  obtain rfl := some_inv h
  exact (show _ ∧ _ from ⟨rfl, ⟨_, rfl, lk3 ((after_lk (by kernel_rfl) rfl).trans (by rw [hlk 0 (by decide)]; kernel_rfl)) ((after_lk (by kernel_rfl) rfl).trans (by rw [hlk 1 (by decide)]; kernel_rfl)) ((after_lk (by kernel_rfl) rfl).trans (by rw [hlk 2 (by decide)]; kernel_rfl))⟩⟩)

end Go.Proofs.YtimalbkjflfdoaaDoor

/-
  The laws of chapter 2 in plain Lean: RoundTrip, Different, Lists. Conditions: those of each theorem.
-/
set_option linter.unusedVariables false
set_option linter.unusedSimpArgs false
set_option maxRecDepth 100000
set_option maxHeartbeats 1000000
namespace Go.Proofs.YtimalbkjflfdoaaDoor
open Go.DL
theorem good_of {v : Val} (h : rng v) (hc : chk v = 0) : good 0 v := by
  obtain ⟨h1, h2⟩ := chk0.1 hc
  exact ⟨h1, ints_rng h, by omega⟩
theorem good_chk {v : Val} (h : good 0 v) : chk v = 0 := chk0.2 ⟨h.1, by have := h.2.2; omega⟩
theorem encR_two (v : Val) : (encR v).2 = chk v := by
  unfold encR; split
  · rename_i h; exact h.symm
  · rfl
theorem encR_one {v : Val} (h : chk v = 0) : encR v = (enc v, 0) := by unfold encR; rw [if_pos h]
theorem sm_len {v : Val} (h : Sm v) (hc : chk v = 0) : (enc v).length ≤ 60000 := by
  have := enc_len h.2.2 (chk0.1 hc).1
  have := h.1; omega
theorem roundtrip_j2 {raw : List UInt8} (hl : raw.length ≤ 2000) : WP (g_law02_CodecRoundTrip_j2 raw) fun x => x = .inl true := by
  unfold g_law02_CodecRoundTrip_j2
  refine WP.bdPW ((decode_eq (by omega)).mono fun y ⟨p, h1, h2⟩ => ⟨p, h1, ?_⟩)
  have ho := dec_ok h2 (by omega)
  rcases h2 with ⟨g1, g2, g3⟩ | ⟨g1, g2⟩
  · refine WP.iteN (fun h => absurd g3 h) (fun _ => WP.bdP (Encode_eq ho) ?_)
    rw [encR_one (good_chk g1), g2]
    refine WP.iteE (fun _ => WP.iteL (fun _ => WP.bd (check_eq ho.2.1 ho.1) (WP.ret ?_)) (fun h => absurd rfl h)) (fun h => absurd rfl h)
    rw [good_chk g1]; rfl
  · subst g2
    refine WP.iteN (fun _ => WP.iteE (fun _ => same_then zV_ok (fun _ => WP.ret rfl) (fun h => absurd rfl h)) (fun h => absurd rfl h)) (fun h => absurd h (by decide))
theorem law_RoundTrip {v : Val} {raw : List UInt8} (hv : rng v) : g_law02_CodecRoundTrip v raw = some (.inl true) := by
  refine WP.eq ?_
  unfold g_law02_CodecRoundTrip
  have skip : WP (g_law02_CodecRoundTrip_j1 v raw true) fun x => x = .inl true := by
    unfold g_law02_CodecRoundTrip_j1
    exact WP.iteT (WP.ret rfl)
  refine WP.bdP sane_eq (WP.iteNb (WP.iteT (few_then (by simpa using hv) (by simp) (WP.iteNb (WP.iteF skip)) fun hs => WP.iteNb (WP.iteT ?_))))
  cases hk : decide (((raw.length : Nat) : Int) > 2000) with
  | true => exact skip
  | false =>
    have hraw : raw.length ≤ 2000 := by have := of_decide_eq_false hk; omega
    have hsv := hs v (by simp)
    have ho := sm_ok hsv
    unfold g_law02_CodecRoundTrip_j1
    refine WP.iteF (WP.bdP (Encode_eq ho) (WP.bd (check_eq ho.2.1 ho.1) (WP.iteN (fun h => absurd (encR_two v) h) (fun _ => WP.iteE (fun h0 => ?_) (fun _ => roundtrip_j2 hraw)))))
    rw [encR_two] at h0
    rw [encR_one h0]
    refine WP.bdPW ((decode_eq (by have := sm_len hsv h0; simp only; omega)).mono fun y ⟨p, h1, h2⟩ => ⟨p, h1, ?_⟩)
    rw [dec_of h2 (good_of hv h0) rfl (by have := sm_len hsv h0; simp only; omega)]
    refine WP.iteN (fun h => absurd rfl h) (fun _ => same_then ho (fun _ => WP.iteNb (WP.iteT (rsame_then ho (fun _ => ?_) (fun h => absurd rfl h)))) (fun h => absurd rfl h))
    unfold g_law02_CodecRoundTrip_j3
    exact WP.iteF (roundtrip_j2 hraw)
theorem law_Different {v w : Val} (hv : rng v) (hw : rng w) : g_law02_CodecDifferent v w = some (.inl true) := by
  refine WP.eq ?_
  unfold g_law02_CodecDifferent
  refine WP.bdP sane_eq (WP.iteNb (WP.iteT (few_then (by simpa using ⟨hv, hw⟩) (by simp) (WP.iteNb (WP.iteF (WP.ret rfl))) fun hs => WP.iteNb (WP.iteT ?_))))
  have hov := sm_ok (hs v (by simp))
  have how := sm_ok (hs w (by simp))
  refine WP.bdP (Encode_eq hov) (WP.bdP (Encode_eq how) ?_)
  have skip : ∀ a b, WP (g_law02_CodecDifferent_j1 v w a b true) fun x => x = .inl true := by
    intro a b
    unfold g_law02_CodecDifferent_j1
    exact WP.iteT (WP.ret rfl)
  refine WP.iteN (fun _ => skip _ _) (fun h1 => ?_)
  rw [encR_two] at h1
  by_cases h2 : chk w = 0
  · rw [encR_one h1, encR_one h2]
    unfold g_law02_CodecDifferent_j1
    refine WP.iteF (same_then hov (fun e => WP.iteT (WP.ret ?_)) (fun hne => WP.iteF ?_))
    · subst e; simp
    dsimp only
    have hlv := sm_len (hs v (by simp)) h1
    have hlw := sm_len (hs w (by simp)) h2
    have hwv := (chk0.1 h1).1
    have hww := (chk0.1 h2).1
    refine WP.sb ⟨by simp, by simp only [Option.getD_none, Option.getD_some]; split <;> omega, by simp only [Option.getD_some]; split <;> omega⟩ (WP.sb ⟨by simp, by simp only [Option.getD_none, Option.getD_some]; split <;> omega, by simp only [Option.getD_some]; split <;> omega⟩ (WP.ret ?_))
    have e1 : ∀ (l : List UInt8) (n : Int), subList l none (some n) = l.take n.toNat := fun _ _ => rfl
    rw [e1, e1]
    have hno : ¬ (enc v).take (if (((enc w).length : Nat) : Int) < (((enc v).length : Nat) : Int) then (((enc w).length : Nat) : Int) else (((enc v).length : Nat) : Int)).toNat = (enc w).take (if (((enc w).length : Nat) : Int) < (((enc v).length : Nat) : Int) then (((enc w).length : Nat) : Int) else (((enc v).length : Nat) : Int)).toNat := by
      intro he
      split at he
      · rw [Int.toNat_natCast, List.take_length] at he
        refine hne (enc_split (a := []) (b := (enc v).drop (enc w).length) hv hw hwv hww ?_).1
        rw [List.append_nil, ← he, List.length_take, Nat.min_eq_left (by omega), List.take_append_drop]
      · rw [Int.toNat_natCast, List.take_length] at he
        refine hne (enc_split (a := (enc w).drop (enc v).length) (b := []) hv hw hwv hww ?_).1
        rw [List.append_nil, he, List.length_take, Nat.min_eq_left (by omega), List.take_append_drop]
    rw [beq_eq_false_iff_ne.2 hno]; rfl
  · have : ((encR w).2 != 0) = true := by rw [encR_two]; simpa using h2
    rw [this]
    exact skip _ _
end Go.Proofs.YtimalbkjflfdoaaDoor
