/-
  Texts that belong together, one behind the other; what each of them proves, and under which conditions, its own heading says.
-/
import Derived.Test.YtimalbkjflfdoaaDoorJf
/-
  CodecDifferent returns true for every input and changes none of its arguments. Conditions: the row's own.
-/
namespace Go.Proofs.YtimalbkjflfdoaaDoor
open Go.DL Go.ChangeShapes Go.WideShapes Go.ChangeAt Go.RowKit
set_option maxRecDepth 100000
set_option linter.unusedVariables false
set_option linter.unusedSimpArgs false
theorem codecDifferent_reads (os : Os) {H : Type} (enc : TypeId × Value → H) : ∃ places, DataW.whole enc Tryd.prog ((laidWorld os).forCall (fun _ _ => 0) ⟨#[], #[.agg #[.int .i64 0, .int .i64 0, .string ⟨#[]⟩, .slice none 0 0, .slice none 0 0], .agg #[.int .i64 0, .int .i64 0, .string ⟨#[]⟩, .slice none 0 0, .slice none 0 0]], []⟩).memory Tryd.f7.params.toList Rows.codecDifferentSpec.vars false #[(.agg #[.int .i64 0, .int .i64 0, .string ⟨#[]⟩, .slice none 0 0, .slice none 0 0] : Value), (.agg #[.int .i64 0, .int .i64 0, .string ⟨#[]⟩, .slice none 0 0, .slice none 0 0] : Value)].toList 8 = some ([.agg [.lit (.int .i64 0), .lit (.int .i64 0), .lit (.string []), .nil, .nil], .agg [.lit (.int .i64 0), .lit (.int .i64 0), .lit (.string []), .nil, .nil]], [], places) :=
  ⟨[], by kernel_rfl⟩
theorem codecDifferent_lifted (os : Os) (started : os.Started) (H : Type) (enc : TypeId × Value → H) (F : Stop.Interp) :
    ReturnsInHanded {} Tryd.checked os 7 .any ((OpenSpec.ofChange Rows.codecDifferentSpec).preRow enc Tryd.prog Tryd.f7 Rows.codecDifferentRow.domain false Rows.codecDifferentRow.laid) (((OpenSpec.ofChange Rows.codecDifferentSpec).at F).post enc Tryd.prog Tryd.f7 false true false false) := by
  obtain ⟨places, hx⟩ := codecDifferent_reads os enc
  refine returnsInHanded_of_row (C := Tryd.checked) (s := OpenSpec.ofChange Rows.codecDifferentSpec) Tryd.own started (by kernel_rfl) Tryd.func7
    (witness_row_atRef (enc := enc) (C := Tryd.checked) false (laidWorld os) #[.agg #[.int .i64 0, .int .i64 0, .string ⟨#[]⟩, .slice none 0 0, .slice none 0 0], .agg #[.int .i64 0, .int .i64 0, .string ⟨#[]⟩, .slice none 0 0, .slice none 0 0]] rfl (by kernel_rfl) (by kernel_rfl) (by kernel_rfl)
      (OpenSpec.preRow_of_cond 8 hx (by kernel_rfl) (fun k hk => by cases hk) (by kernel_rfl) (laid_met os _))) ?_
  intro W base args ds gs before hval0 hW _ _ hwt0 hL _ _
  have hval : ∀ (j : Nat) t v, Tryd.f7.params[j]? = some t → args[j]? = some v → Value.okWide Tryd.prog W .any base t v := hval0
  have hwt : (DataW.weightsEach Tryd.prog (Tryd.f7.params.toList ++ Rows.codecDifferentSpec.plain.varTypes Tryd.prog) (ds ++ gs)).all (· ≤ reachBytes) = true := hwt0
  have hL5 : laidMetH Tryd.prog laid5 W := hL
  clear hval0 hwt0
  have hW1 : DataW.Whole enc Tryd.prog Tryd.f7.params.toList Rows.codecDifferentSpec.vars false W args.toList ds gs before := hW
  have hW' := hW1
  obtain ⟨p, q, hA0, hV, rfl, hfz, hnd⟩ := hW1
  have hA : DataW.TrodAll enc Tryd.prog W 0 (fun _ => true) true Tryd.f7.params.toList args.toList ds p := hA0
  rw [Tryd.params7] at hA hval
  obtain ⟨v0, v1, d0, d1, p0, p1, rfl, rfl, rfl, h0, h1⟩ := trodAll_two hA
  obtain ⟨rfl, rfl⟩ := trodVars_none hV
  have hw : ∀ n ∈ DataW.weightsEach Tryd.prog [25, 25] [d0, d1], n ≤ reachBytes := by
    intro n hn
    have := List.all_eq_true.1 hwt n hn
    exact of_decide_eq_true this
  simp only [DataW.weightsEach, List.mem_append] at hw
  have od := ghost_odd hL5
  obtain ⟨x0, r0, g0⟩ := arg_agg d_25 h0 (hval 0 25 v0 rfl rfl) (by kernel_rfl)
  obtain ⟨x1, r1, g1⟩ := arg_agg d_25 h1 (hval 1 25 v1 rfl rfl) (by kernel_rfl)
  have k0 := g0 fun n hn => hw n (.inl hn)
  have k1 := g1 fun n hn => hw n (.inr (.inl hn))
  exact law_callG hW' Tryd.laidOut (by intro t ht; rw [Tryd.params7] at ht; simp at ht; rcases ht with rfl <;> exact ⟨by kernel_rfl, of_decide_eq_true (by kernel_rfl)⟩) 4 (by kernel_rfl) und4 rfl rfl
    3 [(.agg (qVal x0)), (.agg (qVal x1))] ghosts (mkM W) _ ghost_pin (boxes_start hL5) (g_law02_CodecDifferent_ret (law_Different k0 k1)) (fun co hco => hco) rfl
    (fun j c hj => match j, hj with
      | 0, hj => by simp at hj; subst hj; exact ⟨v0, rfl, agg_rel (r0.avoid od (by have := pl_encVal x0; rw [encVal_nd] at this; exact this))⟩
      | 1, hj => by simp at hj; subst hj; exact ⟨v1, rfl, agg_rel (r1.avoid od (by have := pl_encVal x1; rw [encVal_nd] at this; exact this))⟩
      | j + 2, hj => by simp at hj)
theorem codecDifferent_said : Rows.CodecDifferentSaid :=
  OpenClaim.holds_of_cond 7 Tryd.f7 rfl rfl rfl rfl rfl rfl rfl ⟨rfl, rfl, rfl, rfl, rfl⟩ rfl rfl rfl rfl rfl (by kernel_rfl) Tryd.func7 (by kernel_rfl)
    (of_decide_eq_true (by kernel_rfl)) (by unfold Func.isWrapper; first | (rw [if_pos (by decide +kernel)]; kernel_rfl) | (rw [if_neg (by decide +kernel)]; exact ⟨rfl, rfl⟩))
    (fun os started H enc _ F => by rw [OpenClaim.pre_eq_preRow]; exact codecDifferent_lifted os started H enc F)
theorem codecDifferent_plain (f : FuncId) (fn : Func) (hf : Tryd.pinned.checked.prog.funcNamed "assize/assizelaw02.CodecDifferent" = some f) (hfn : Tryd.pinned.checked.prog.funcs[f]? = some fn) :
    true = Tryd.pinned.checked.prog.looks [] ∧ ∀ (j : Nat) t, fn.params[j]? = some t → Tryd.pinned.checked.prog.wantsStandIn t = false := by
  obtain rfl : f = 7 := Option.some.inj ((show Tryd.prog.funcNamed "assize/assizelaw02.CodecDifferent" = some 7 by kernel_rfl).symm.trans hf) |>.symm
  obtain rfl : fn = Tryd.f7 := (Option.some.inj (Tryd.func7.symm.trans hfn)).symm
  refine ⟨by kernel_rfl, fun j t ht => ?_⟩
  rw [Tryd.params7] at ht
  have := Array.mem_of_getElem? ht
  simp at this
  rcases this with rfl
  · exact (show Tryd.prog.wantsStandIn 25 = false by kernel_rfl)
theorem codecDifferent_holds : Rows.CodecDifferentCardSaid :=
  Claim7.holds_tied_plain_at .later [] _ _ _ _ codecDifferent_said (fun _ h => by cases h) (by kernel_rfl) (fun _ h => by cases h) codecDifferent_row_tie rfl ⟨rfl, rfl⟩ (by kernel_rfl) rfl codecDifferent_plain (by kernel_rfl)
#print axioms codecDifferent_holds
end Go.Proofs.YtimalbkjflfdoaaDoor
