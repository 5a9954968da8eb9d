/-
  Texts that belong together, one behind the other; what each of them proves, and under which conditions, its own heading says.
-/
import Derived.Test.YtimalbkjflfdoaaDoorKe
/-
  The laws of chapter 2 in plain Lean: Keys. Conditions: those of each theorem.
-/
set_option linter.unusedVariables false
set_option linter.unusedSimpArgs false
set_option maxRecDepth 100000
set_option maxHeartbeats 1000000
namespace Go.Proofs.YtimalbkjflfdoaaDoor
open Go.DL
theorem bl_cons {a b : UInt8} {x y : List UInt8} : Op.bytesLess (a :: x) (b :: y) = true ↔ a.toNat < b.toNat ∨ (a = b ∧ Op.bytesLess x y = true) := by
  simp only [Op.bytesLess, Bool.or_eq_true, decide_eq_true_eq, Bool.and_eq_true, beq_iff_eq, UInt8.lt_iff_toNat_lt]
theorem bl_irrefl : ∀ x : List UInt8, Op.bytesLess x x = true → False
  | [], h => by simp [Op.bytesLess] at h
  | a :: x, h => by
    rcases bl_cons.1 h with h | ⟨_, h⟩
    · omega
    · exact bl_irrefl x h
theorem bl_trans : ∀ {x y z : List UInt8}, Op.bytesLess x y = true → Op.bytesLess y z = true → Op.bytesLess x z = true
  | _, [], _, h, _ => by simp [Op.bytesLess] at h
  | _, _ :: _, [], _, h => by simp [Op.bytesLess] at h
  | [], _ :: _, _ :: _, _, _ => rfl
  | a :: x, b :: y, c :: z, h1, h2 => by
    refine bl_cons.2 ?_
    rcases bl_cons.1 h1 with h3 | ⟨rfl, h3⟩ <;> rcases bl_cons.1 h2 with h4 | ⟨rfl, h4⟩
    · exact .inl (by omega)
    · exact .inl h3
    · exact .inl h4
    · exact .inr ⟨rfl, bl_trans h3 h4⟩
theorem incr_lt : ∀ {l : List (List UInt8)} {a y : List UInt8}, incr (a :: l) = true → y ∈ l → Op.bytesLess a y = true
  | [], _, _, _, h => by simp at h
  | b :: l, a, y, h1, h2 => by
    simp only [incr, Bool.and_eq_true] at h1
    rcases List.mem_cons.1 h2 with rfl | h2
    · exact h1.1
    · exact bl_trans h1.1 (incr_lt h1.2 h2)
theorem incr_idx : ∀ {l : List (List UInt8)} {k : List UInt8} {i : Nat}, incr l = true → l[i]? = some k → l.idxOf k = i
  | [], _, _, _, h => by simp at h
  | a :: l, k, 0, _, h => by simp at h; subst h; simp
  | a :: l, k, i + 1, h1, h2 => by
    have hm : k ∈ l := List.mem_of_getElem? (by simpa using h2)
    have hne : a ≠ k := fun e => bl_irrefl k (by have := incr_lt h1 hm; rw [e] at this; exact this)
    have hi : incr l = true := by
      cases l with
      | nil => rfl
      | cons b l => simp only [incr, Bool.and_eq_true] at h1; exact h1.2
    rw [idxOf_ne hne, incr_idx hi (by simpa using h2)]
theorem idx_lt {l : List (List UInt8)} {k : List UInt8} : l.idxOf k < l.length ↔ k ∈ l := by
  induction l with
  | nil => simp
  | cons a l ih =>
    by_cases h : a = k
    · subst h; simp
    · rw [idxOf_ne h, List.length_cons, List.mem_cons]
      constructor
      · intro h2; exact .inr (ih.1 (by omega))
      · rintro (rfl | h2)
        · exact absurd rfl h
        · have := ih.2 h2; omega
theorem law_Keys {v : Val} {other : List UInt8} (hv : rng v) : g_law02_CodecKeys v other = some (.inl true) := by
  refine WP.eq ?_
  unfold g_law02_CodecKeys
  have skip : WP (g_law02_CodecKeys_j1 v other true) fun x => x = .inl true := by
    unfold g_law02_CodecKeys_j1
    exact WP.iteT (WP.ret rfl)
  refine WP.bdP sane_eq (WP.iteNb (WP.iteT (few_then (by simpa using hv) (by simp) (WP.iteNb (WP.iteF skip)) fun hs => WP.iteNb (WP.iteT (WP.iteD (fun _ => skip) (fun hlen => ?_))))))
  by_cases hk : v.k = 4
  · have : (v.k != 4) = false := by rw [hk]; rfl
    rw [this]
    have hsv := hs v (by simp)
    have ho := sm_ok hsv
    unfold g_law02_CodecKeys_j1
    refine WP.iteF (WP.bdP (Encode_eq ho) (WP.iteN (fun _ => WP.ret rfl) (fun h0 => ?_)))
    rw [encR_two] at h0
    rw [encR_one h0]
    have hle := sm_len hsv h0
    refine WP.bdPW ((decode_eq (by simp only; omega)).mono fun y ⟨p, h1, h2⟩ => ⟨p, h1, ?_⟩)
    rw [dec_of h2 (good_of hv h0) rfl (by simp only; omega)]
    refine WP.iteN (fun h => absurd rfl h) (fun _ => ?_)
    have hw := (chk0.1 h0).1
    cases v with
    | mk k n s l ks =>
      simp only [Val.k] at hk
      subst hk
      obtain ⟨rfl, rfl, g1, g2, g3⟩ := wf4 hw
      have hv2 := hv
      simp only [rng, rngL_iff] at hv2
      obtain ⟨_, _, _, r4, r5, r6, r7⟩ := hv2
      simp only [Val.ks, Val.l]
      rw [show ((((ks.length : Nat) : Int) != ((l.length : Nat) : Int))) = false by rw [g1]; simp]
      unfold g_law02_CodecKeys_j2
      have gv : ∀ key, getV (.mk 4 0 [] l ks) key = if key ∈ ks then ((l[ks.idxOf key]?).getD zV, true) else (zV, false) := by
        intro key
        unfold getV
        simp only [Val.k, Val.l, Val.ks, if_true]
        by_cases hm : key ∈ ks
        · have hi := idx_lt.2 hm
          rw [if_pos hm]
          have hl : ks.idxOf key < l.length := by omega
          rw [List.getElem?_eq_getElem hl]
          simp [hi]
        · have hi : ¬ ks.idxOf key < ks.length := fun h => hm (idx_lt.1 h)
          rw [if_neg hm]
          rw [List.getElem?_eq_none (by omega)]
      refine WP.iteF (WP.loop (fun (p : Bool × Nat) => p.2 ≤ ks.length ∧ (p.1 = true ↔ other ∈ ks.take p.2)) (fun p => ks.length - p.2) ?_ ⟨by simp, by simp⟩)
      rintro ⟨has, i⟩ ⟨i1, i2⟩
      simp only at i1 i2
      unfold g_law02_CodecKeys_l4
      simp only [Val.ks, Val.l]
      refine WP.iteD (fun hi => ?_) (fun hi => ?_)
      · refine WP.gn (by omega) fun x hx => WP.bd (get_t ho) ?_
        have hxm := List.mem_of_getElem? hx
        rw [gv, if_pos hxm, incr_idx g2 hx]
        refine WP.iteNb (WP.iteT (WP.gn (by omega) fun y hy => ?_))
        have hy2 : (l[i]?).getD zV = y := by rw [hy]; rfl
        dsimp only
        rw [hy2]
        have hym := List.mem_of_getElem? hy
        have hoy : Ok y := by
          obtain ⟨_, q2, q3⟩ := ho
          simp only [hgt] at q2
          simp only [cnt] at q3
          have q4 := cntL_mem hym
          have q5 := hgtL_le.1 (Nat.le_refl (hgtL l)) _ hym
          exact ⟨r7 y hym, by omega, by omega⟩
        refine same_then hoy (fun _ => ?_) (fun h => absurd rfl h)
        unfold g_law02_CodecKeys_j6
        have fin : ∀ b : Bool, (b = true ↔ other ∈ ks.take (i + 1)) → WP (g_law02_CodecKeys_j5 i other (.mk 4 0 [] l ks) (.mk 4 0 [] l ks, 0) b) (Rnd (fun (p : Bool × Nat) => p.2 ≤ ks.length ∧ (p.1 = true ↔ other ∈ ks.take p.2)) (fun p => ks.length - p.2) (ks.length - i) fun x => x = .inl true) := by
          intro b hb
          unfold g_law02_CodecKeys_j5
          refine WP.ckI (by omega) (WP.ret ⟨⟨by simp only; omega, hb⟩, by simp only; omega⟩)
        have tk : other ∈ ks.take (i + 1) ↔ other ∈ ks.take i ∨ other = x := by
          rw [List.take_add_one, hx]; simp
        refine WP.iteNb (WP.iteT ?_)
        refine WP.iteB (fun hh => fin true ?_) (fun hh => fin _ ?_)
        · simp only [true_iff, tk]; exact .inl (i2.1 hh)
        · rw [tk]
          constructor
          · intro h; exact .inr (by simpa using h : x = other).symm
          · rintro (h | h)
            · have := i2.2 h; rw [hh] at this; cases this
            · simp [h]
      · have e : i = ks.length := by omega
        rw [e, List.take_length] at i2
        refine WP.up ?_
        unfold g_law02_CodecKeys_j3
        refine WP.bd (get_t ho) (WP.ret ?_)
        rw [gv]
        show (Sum.inl _ : Bool ⊕ Unit) = .inl true
        by_cases hm : other ∈ ks
        · rw [if_pos hm, i2.2 hm]; rfl
        · rw [if_neg hm]
          cases has with
          | true => exact absurd (i2.1 rfl) hm
          | false => rfl
  · have : (v.k != 4) = true := bne_iff_ne.2 hk
    rw [this]
    exact skip
end Go.Proofs.YtimalbkjflfdoaaDoor

/-
  CodecKeys returns true for every input and changes none of its arguments. Conditions: the row's own.
-/
namespace Go.Proofs.YtimalbkjflfdoaaDoor
open Go.DL Go.ChangeShapes Go.WideShapes Go.ChangeAt Go.RowKit
set_option maxRecDepth 100000
set_option linter.unusedVariables false
set_option linter.unusedSimpArgs false
theorem codecKeys_reads (os : Os) {H : Type} (enc : TypeId × Value → H) : ∃ places, DataW.whole enc Tryd.prog ((laidWorld os).forCall (fun _ _ => 0) ⟨#[], #[.agg #[.int .i64 0, .int .i64 0, .string ⟨#[]⟩, .slice none 0 0, .slice none 0 0], .string ⟨#[]⟩], []⟩).memory Tryd.f9.params.toList Rows.codecKeysSpec.vars false #[(.agg #[.int .i64 0, .int .i64 0, .string ⟨#[]⟩, .slice none 0 0, .slice none 0 0] : Value), (.string ⟨#[]⟩ : Value)].toList 8 = some ([.agg [.lit (.int .i64 0), .lit (.int .i64 0), .lit (.string []), .nil, .nil], .lit (.string [])], [], places) :=
  ⟨[], by kernel_rfl⟩
theorem codecKeys_lifted (os : Os) (started : os.Started) (H : Type) (enc : TypeId × Value → H) (F : Stop.Interp) :
    ReturnsInHanded {} Tryd.checked os 9 .any ((OpenSpec.ofChange Rows.codecKeysSpec).preRow enc Tryd.prog Tryd.f9 Rows.codecKeysRow.domain false Rows.codecKeysRow.laid) (((OpenSpec.ofChange Rows.codecKeysSpec).at F).post enc Tryd.prog Tryd.f9 false true false false) := by
  obtain ⟨places, hx⟩ := codecKeys_reads os enc
  refine returnsInHanded_of_row (C := Tryd.checked) (s := OpenSpec.ofChange Rows.codecKeysSpec) Tryd.own started (by kernel_rfl) Tryd.func9
    (witness_row_atRef (enc := enc) (C := Tryd.checked) false (laidWorld os) #[.agg #[.int .i64 0, .int .i64 0, .string ⟨#[]⟩, .slice none 0 0, .slice none 0 0], .string ⟨#[]⟩] rfl (by kernel_rfl) (by kernel_rfl) (by kernel_rfl)
      (OpenSpec.preRow_of_cond 8 hx (by kernel_rfl) (fun k hk => by cases hk) (by kernel_rfl) (laid_met os _))) ?_
  intro W base args ds gs before hval0 hW _ _ hwt0 hL _ _
  have hval : ∀ (j : Nat) t v, Tryd.f9.params[j]? = some t → args[j]? = some v → Value.okWide Tryd.prog W .any base t v := hval0
  have hwt : (DataW.weightsEach Tryd.prog (Tryd.f9.params.toList ++ Rows.codecKeysSpec.plain.varTypes Tryd.prog) (ds ++ gs)).all (· ≤ reachBytes) = true := hwt0
  have hL5 : laidMetH Tryd.prog laid5 W := hL
  clear hval0 hwt0
  have hW1 : DataW.Whole enc Tryd.prog Tryd.f9.params.toList Rows.codecKeysSpec.vars false W args.toList ds gs before := hW
  have hW' := hW1
  obtain ⟨p, q, hA0, hV, rfl, hfz, hnd⟩ := hW1
  have hA : DataW.TrodAll enc Tryd.prog W 0 (fun _ => true) true Tryd.f9.params.toList args.toList ds p := hA0
  rw [Tryd.params9] at hA hval
  obtain ⟨v0, v1, d0, d1, p0, p1, rfl, rfl, rfl, h0, h1⟩ := trodAll_two hA
  obtain ⟨rfl, rfl⟩ := trodVars_none hV
  have hw : ∀ n ∈ DataW.weightsEach Tryd.prog [25, 9] [d0, d1], n ≤ reachBytes := by
    intro n hn
    have := List.all_eq_true.1 hwt n hn
    exact of_decide_eq_true this
  simp only [DataW.weightsEach, List.mem_append] at hw
  have od := ghost_odd hL5
  obtain ⟨x0, r0, g0⟩ := arg_agg d_25 h0 (hval 0 25 v0 rfl rfl) (by kernel_rfl)
  obtain ⟨x1, r1, g1⟩ := arg_one (cell := fun b : List UInt8 => .str b) d_9 h1 (hval 1 9 v1 rfl rfl) (no_agg_string und9)
  have k0 := g0 fun n hn => hw n (.inl hn)
  have k1 := g1 fun n hn => hw n (.inr (.inl hn))
  exact law_callG hW' Tryd.laidOut (by intro t ht; rw [Tryd.params9] at ht; simp at ht; rcases ht with rfl | rfl <;> exact ⟨by kernel_rfl, of_decide_eq_true (by kernel_rfl)⟩) 4 (by kernel_rfl) und4 rfl rfl
    3 [(.agg (qVal x0)), (dt (.str x1))] ghosts (mkM W) _ ghost_pin (boxes_start hL5) (g_law02_CodecKeys_ret (law_Keys k0)) (fun co hco => hco) rfl
    (fun j c hj => match j, hj with
      | 0, hj => by simp at hj; subst hj; exact ⟨v0, rfl, agg_rel (r0.avoid od (by have := pl_encVal x0; rw [encVal_nd] at this; exact this))⟩
      | 1, hj => by simp at hj; subst hj; exact ⟨v1, rfl, r1.avoid od (.str x1)⟩
      | j + 2, hj => by simp at hj)
theorem codecKeys_said : Rows.CodecKeysSaid :=
  OpenClaim.holds_of_cond 9 Tryd.f9 rfl rfl rfl rfl rfl rfl rfl ⟨rfl, rfl, rfl, rfl, rfl⟩ rfl rfl rfl rfl rfl (by kernel_rfl) Tryd.func9 (by kernel_rfl)
    (of_decide_eq_true (by kernel_rfl)) (by unfold Func.isWrapper; first | (rw [if_pos (by decide +kernel)]; kernel_rfl) | (rw [if_neg (by decide +kernel)]; exact ⟨rfl, rfl⟩))
    (fun os started H enc _ F => by rw [OpenClaim.pre_eq_preRow]; exact codecKeys_lifted os started H enc F)
theorem codecKeys_plain (f : FuncId) (fn : Func) (hf : Tryd.pinned.checked.prog.funcNamed "assize/assizelaw02.CodecKeys" = some f) (hfn : Tryd.pinned.checked.prog.funcs[f]? = some fn) :
    true = Tryd.pinned.checked.prog.looks [] ∧ ∀ (j : Nat) t, fn.params[j]? = some t → Tryd.pinned.checked.prog.wantsStandIn t = false := by
  obtain rfl : f = 9 := Option.some.inj ((show Tryd.prog.funcNamed "assize/assizelaw02.CodecKeys" = some 9 by kernel_rfl).symm.trans hf) |>.symm
  obtain rfl : fn = Tryd.f9 := (Option.some.inj (Tryd.func9.symm.trans hfn)).symm
  refine ⟨by kernel_rfl, fun j t ht => ?_⟩
  rw [Tryd.params9] at ht
  have := Array.mem_of_getElem? ht
  simp at this
  rcases this with rfl | rfl
  · exact (show Tryd.prog.wantsStandIn 25 = false by kernel_rfl)
  · exact (show Tryd.prog.wantsStandIn 9 = false by kernel_rfl)
theorem codecKeys_holds : Rows.CodecKeysCardSaid :=
  Claim7.holds_tied_plain_at .later [] _ _ _ _ codecKeys_said (fun _ h => by cases h) (by kernel_rfl) (fun _ h => by cases h) codecKeys_row_tie rfl ⟨rfl, rfl⟩ (by kernel_rfl) rfl codecKeys_plain (by kernel_rfl)
#print axioms codecKeys_holds
end Go.Proofs.YtimalbkjflfdoaaDoor
