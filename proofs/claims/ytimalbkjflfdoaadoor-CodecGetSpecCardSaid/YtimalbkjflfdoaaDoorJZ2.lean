/-
  Texts that belong together, one behind the other; what each of them proves, and under which conditions, its own heading says.
-/
import Derived.Test.YtimalbkjflfdoaaDoorJf
/-
  CodecGetSpec returns true for every input and changes none of its arguments. Conditions: the row's own.
-/
namespace Go.Proofs.YtimalbkjflfdoaaDoor
open Go.DL Go.ChangeShapes Go.WideShapes Go.ChangeAt Go.RowKit
set_option maxRecDepth 100000
set_option linter.unusedVariables false
set_option linter.unusedSimpArgs false
theorem codecGetSpec_reads (os : Os) {H : Type} (enc : TypeId × Value → H) : ∃ places, DataW.whole enc Tryd.prog ((laidWorld os).forCall (fun _ _ => 0) ⟨#[], #[.agg #[.int .i64 0, .int .i64 0, .string ⟨#[]⟩, .slice none 0 0, .slice none 0 0], .agg #[.int .i64 0, .int .i64 0, .string ⟨#[]⟩, .slice none 0 0, .slice none 0 0], .string ⟨#[]⟩], []⟩).memory Tryd.f5.params.toList Rows.codecGetSpecSpec.vars false #[(.agg #[.int .i64 0, .int .i64 0, .string ⟨#[]⟩, .slice none 0 0, .slice none 0 0] : Value), (.agg #[.int .i64 0, .int .i64 0, .string ⟨#[]⟩, .slice none 0 0, .slice none 0 0] : Value), (.string ⟨#[]⟩ : Value)].toList 8 = some ([.agg [.lit (.int .i64 0), .lit (.int .i64 0), .lit (.string []), .nil, .nil], .agg [.lit (.int .i64 0), .lit (.int .i64 0), .lit (.string []), .nil, .nil], .lit (.string [])], [], places) :=
  ⟨[], by kernel_rfl⟩
theorem codecGetSpec_lifted (os : Os) (started : os.Started) (H : Type) (enc : TypeId × Value → H) (F : Stop.Interp) :
    ReturnsInHanded {} Tryd.checked os 5 .any ((OpenSpec.ofChange Rows.codecGetSpecSpec).preRow enc Tryd.prog Tryd.f5 Rows.codecGetSpecRow.domain false Rows.codecGetSpecRow.laid) (((OpenSpec.ofChange Rows.codecGetSpecSpec).at F).post enc Tryd.prog Tryd.f5 false true false false) := by
  obtain ⟨places, hx⟩ := codecGetSpec_reads os enc
  refine returnsInHanded_of_row (C := Tryd.checked) (s := OpenSpec.ofChange Rows.codecGetSpecSpec) Tryd.own started (by kernel_rfl) Tryd.func5
    (witness_row_atRef (enc := enc) (C := Tryd.checked) false (laidWorld os) #[.agg #[.int .i64 0, .int .i64 0, .string ⟨#[]⟩, .slice none 0 0, .slice none 0 0], .agg #[.int .i64 0, .int .i64 0, .string ⟨#[]⟩, .slice none 0 0, .slice none 0 0], .string ⟨#[]⟩] rfl (by kernel_rfl) (by kernel_rfl) (by kernel_rfl)
      (OpenSpec.preRow_of_cond 8 hx (by kernel_rfl) (fun k hk => by cases hk) (by kernel_rfl) (laid_met os _))) ?_
  intro W base args ds gs before hval0 hW _ _ hwt0 hL _ _
  have hval : ∀ (j : Nat) t v, Tryd.f5.params[j]? = some t → args[j]? = some v → Value.okWide Tryd.prog W .any base t v := hval0
  have hwt : (DataW.weightsEach Tryd.prog (Tryd.f5.params.toList ++ Rows.codecGetSpecSpec.plain.varTypes Tryd.prog) (ds ++ gs)).all (· ≤ reachBytes) = true := hwt0
  have hL5 : laidMetH Tryd.prog laid5 W := hL
  clear hval0 hwt0
  have hW1 : DataW.Whole enc Tryd.prog Tryd.f5.params.toList Rows.codecGetSpecSpec.vars false W args.toList ds gs before := hW
  have hW' := hW1
  obtain ⟨p, q, hA0, hV, rfl, hfz, hnd⟩ := hW1
  have hA : DataW.TrodAll enc Tryd.prog W 0 (fun _ => true) true Tryd.f5.params.toList args.toList ds p := hA0
  rw [Tryd.params5] at hA hval
  obtain ⟨v0, v1, v2, d0, d1, d2, p0, p1, p2, rfl, rfl, rfl, h0, h1, h2⟩ := trodAll_three hA
  obtain ⟨rfl, rfl⟩ := trodVars_none hV
  have hw : ∀ n ∈ DataW.weightsEach Tryd.prog [25, 25, 9] [d0, d1, d2], n ≤ reachBytes := by
    intro n hn
    have := List.all_eq_true.1 hwt n hn
    exact of_decide_eq_true this
  simp only [DataW.weightsEach, List.mem_append] at hw
  have od := ghost_odd hL5
  obtain ⟨x0, r0, g0⟩ := arg_agg d_25 h0 (hval 0 25 v0 rfl rfl) (by kernel_rfl)
  obtain ⟨x1, r1, g1⟩ := arg_agg d_25 h1 (hval 1 25 v1 rfl rfl) (by kernel_rfl)
  obtain ⟨x2, r2, g2⟩ := arg_one (cell := fun b : List UInt8 => .str b) d_9 h2 (hval 2 9 v2 rfl rfl) (no_agg_string und9)
  have k0 := g0 fun n hn => hw n (.inl hn)
  have k1 := g1 fun n hn => hw n (.inr (.inl hn))
  have k2 := g2 fun n hn => hw n (.inr (.inr (.inl hn)))
  exact law_callG hW' Tryd.laidOut (by intro t ht; rw [Tryd.params5] at ht; simp at ht; rcases ht with rfl | rfl <;> exact ⟨by kernel_rfl, of_decide_eq_true (by kernel_rfl)⟩) 4 (by kernel_rfl) und4 rfl rfl
    3 [(.agg (qVal x0)), (.agg (qVal x1)), (dt (.str x2))] ghosts (mkM W) _ ghost_pin (boxes_start hL5) (g_law02_CodecGetSpec_ret (law_GetSpec k0 k1)) (fun co hco => hco) rfl
    (fun j c hj => match j, hj with
      | 0, hj => by simp at hj; subst hj; exact ⟨v0, rfl, agg_rel (r0.avoid od (by have := pl_encVal x0; rw [encVal_nd] at this; exact this))⟩
      | 1, hj => by simp at hj; subst hj; exact ⟨v1, rfl, agg_rel (r1.avoid od (by have := pl_encVal x1; rw [encVal_nd] at this; exact this))⟩
      | 2, hj => by simp at hj; subst hj; exact ⟨v2, rfl, r2.avoid od (.str x2)⟩
      | j + 3, hj => by simp at hj)
theorem codecGetSpec_said : Rows.CodecGetSpecSaid :=
  OpenClaim.holds_of_cond 5 Tryd.f5 rfl rfl rfl rfl rfl rfl rfl ⟨rfl, rfl, rfl, rfl, rfl⟩ rfl rfl rfl rfl rfl (by kernel_rfl) Tryd.func5 (by kernel_rfl)
    (of_decide_eq_true (by kernel_rfl)) (by unfold Func.isWrapper; first | (rw [if_pos (by decide +kernel)]; kernel_rfl) | (rw [if_neg (by decide +kernel)]; exact ⟨rfl, rfl⟩))
    (fun os started H enc _ F => by rw [OpenClaim.pre_eq_preRow]; exact codecGetSpec_lifted os started H enc F)
theorem codecGetSpec_plain (f : FuncId) (fn : Func) (hf : Tryd.pinned.checked.prog.funcNamed "assize/assizelaw02.CodecGetSpec" = some f) (hfn : Tryd.pinned.checked.prog.funcs[f]? = some fn) :
    true = Tryd.pinned.checked.prog.looks [] ∧ ∀ (j : Nat) t, fn.params[j]? = some t → Tryd.pinned.checked.prog.wantsStandIn t = false := by
  obtain rfl : f = 5 := Option.some.inj ((show Tryd.prog.funcNamed "assize/assizelaw02.CodecGetSpec" = some 5 by kernel_rfl).symm.trans hf) |>.symm
  obtain rfl : fn = Tryd.f5 := (Option.some.inj (Tryd.func5.symm.trans hfn)).symm
  refine ⟨by kernel_rfl, fun j t ht => ?_⟩
  rw [Tryd.params5] at ht
  have := Array.mem_of_getElem? ht
  simp at this
  rcases this with rfl | rfl
  · exact (show Tryd.prog.wantsStandIn 25 = false by kernel_rfl)
  · exact (show Tryd.prog.wantsStandIn 9 = false by kernel_rfl)
theorem codecGetSpec_holds : Rows.CodecGetSpecCardSaid :=
  Claim7.holds_tied_plain_at .later [] _ _ _ _ codecGetSpec_said (fun _ h => by cases h) (by kernel_rfl) (fun _ h => by cases h) codecGetSpec_row_tie rfl ⟨rfl, rfl⟩ (by kernel_rfl) rfl codecGetSpec_plain (by kernel_rfl)
#print axioms codecGetSpec_holds
end Go.Proofs.YtimalbkjflfdoaaDoor
