/-
  Texts that belong together, one behind the other; what each of them proves, and under which conditions, its own heading says.
-/
import Derived.Test.YtimalbkjflfdoaaDoorCf
set_option linter.unusedVariables false
set_option linter.unusedSimpArgs false
namespace Go.Proofs.YtimalbkjflfdoaaDoor
open Go.DL Go.ChangeShapes Go.WideShapes Go.ChangeAt Go.RowKit
set_option maxRecDepth 100000
theorem codecDecodeSpec_reads (os : Os) {H : Type} (enc : TypeId × Value → H) : ∃ places, DataW.whole enc Tryd.prog ((laidWorld os).forCall (fun _ _ => 0) ⟨#[], #[.slice none 0 0], []⟩).memory Tryd.f4.params.toList Rows.codecDecodeSpecSpec.vars false #[(.slice none 0 0 : Value)].toList 8 = some ([.nil], [], places) :=
  ⟨[], by kernel_rfl⟩
theorem codecDecodeSpec_lifted (os : Os) (started : os.Started) (H : Type) (enc : TypeId × Value → H) (F : Stop.Interp) :
    ReturnsInHanded {} Tryd.checked os 4 .any ((OpenSpec.ofChange Rows.codecDecodeSpecSpec).preRow enc Tryd.prog Tryd.f4 Rows.codecDecodeSpecRow.domain false Rows.codecDecodeSpecRow.laid) (((OpenSpec.ofChange Rows.codecDecodeSpecSpec).at F).post enc Tryd.prog Tryd.f4 false true false false) := by
  obtain ⟨places, hx⟩ := codecDecodeSpec_reads os enc
  refine returnsInHanded_of_row (C := Tryd.checked) (s := OpenSpec.ofChange Rows.codecDecodeSpecSpec) Tryd.own started (by kernel_rfl) Tryd.func4
    (witness_row_atRef (enc := enc) (C := Tryd.checked) false (laidWorld os) #[.slice none 0 0] rfl (by kernel_rfl) (by kernel_rfl) (by kernel_rfl)
      (OpenSpec.preRow_of_cond 8 hx (by kernel_rfl) (fun k hk => by cases hk) (by kernel_rfl) (laid_met os _))) ?_
  intro W base args ds gs before hval0 hW _ _ hwt0 hL _ _
  have hval : ∀ (j : Nat) t v, Tryd.f4.params[j]? = some t → args[j]? = some v → Value.okWide Tryd.prog W .any base t v := hval0
  have hwt : (DataW.weightsEach Tryd.prog (Tryd.f4.params.toList ++ Rows.codecDecodeSpecSpec.plain.varTypes Tryd.prog) (ds ++ gs)).all (· ≤ reachBytes) = true := hwt0
  have hL5 : laidMetH Tryd.prog laid5 W := hL
  clear hval0 hwt0
  have hW1 : DataW.Whole enc Tryd.prog Tryd.f4.params.toList Rows.codecDecodeSpecSpec.vars false W args.toList ds gs before := hW
  have hW' := hW1
  obtain ⟨p, q, hA0, hV, rfl, hfz, hnd⟩ := hW1
  have hA : DataW.TrodAll enc Tryd.prog W 0 (fun _ => true) true Tryd.f4.params.toList args.toList ds p := hA0
  rw [Tryd.params4] at hA hval
  obtain ⟨v0, d0, rfl, rfl, h0⟩ := trodAll_one hA
  obtain ⟨rfl, rfl⟩ := trodVars_none hV
  have hw : ∀ n ∈ DataW.weightsEach Tryd.prog [28] [d0], n ≤ reachBytes := by
    intro n hn
    have := List.all_eq_true.1 hwt n hn
    exact of_decide_eq_true this
  simp only [DataW.weightsEach, List.mem_append] at hw
  have od := ghost_odd hL5
  obtain ⟨x0, r0, g0⟩ := arg_one (cell := fun l : List UInt8 => .sl 1 (l.map elB)) d_28 h0 (hval 0 28 v0 rfl rfl) (no_agg_slice und28)
  have k0 := g0 fun n hn => hw n (.inl hn)
  exact law_callG hW' Tryd.laidOut (by intro t ht; rw [Tryd.params4] at ht; simp at ht; rcases ht with rfl <;> exact ⟨by kernel_rfl, of_decide_eq_true (by kernel_rfl)⟩) 4 (by kernel_rfl) und4 rfl rfl
    3 [(dt (.sl 1 (x0.map elB)))] ghosts (mkM W) _ ghost_pin (boxes_start hL5) (g_law02_CodecDecodeSpec_ret (law_DecodeSpec x0)) (fun co hco => hco) rfl
    (fun j c hj => match j, hj with
      | 0, hj => by simp at hj; subst hj; exact ⟨v0, rfl, r0.avoid od (pl_bytes x0)⟩
      | j + 1, hj => by simp at hj)
theorem codecDecodeSpec_said : Rows.CodecDecodeSpecSaid :=
  OpenClaim.holds_of_cond 4 Tryd.f4 rfl rfl rfl rfl rfl rfl rfl ⟨rfl, rfl, rfl, rfl, rfl⟩ rfl rfl rfl rfl rfl (by kernel_rfl) Tryd.func4 (by kernel_rfl)
    (of_decide_eq_true (by kernel_rfl)) (by unfold Func.isWrapper; first | (rw [if_pos (by decide +kernel)]; kernel_rfl) | (rw [if_neg (by decide +kernel)]; exact ⟨rfl, rfl⟩))
    (fun os started H enc _ F => by rw [OpenClaim.pre_eq_preRow]; exact codecDecodeSpec_lifted os started H enc F)
theorem codecDecodeSpec_plain (f : FuncId) (fn : Func) (hf : Tryd.pinned.checked.prog.funcNamed "assize/assizelaw02.CodecDecodeSpec" = some f) (hfn : Tryd.pinned.checked.prog.funcs[f]? = some fn) :
    true = Tryd.pinned.checked.prog.looks [] ∧ ∀ (j : Nat) t, fn.params[j]? = some t → Tryd.pinned.checked.prog.wantsStandIn t = false := by
  obtain rfl : f = 4 := Option.some.inj ((show Tryd.prog.funcNamed "assize/assizelaw02.CodecDecodeSpec" = some 4 by kernel_rfl).symm.trans hf) |>.symm
  obtain rfl : fn = Tryd.f4 := (Option.some.inj (Tryd.func4.symm.trans hfn)).symm
  refine ⟨by kernel_rfl, fun j t ht => ?_⟩
  rw [Tryd.params4] at ht
  have := Array.mem_of_getElem? ht
  simp at this
  rcases this with rfl
  · exact (show Tryd.prog.wantsStandIn 28 = false by kernel_rfl)
theorem codecDecodeSpec_holds : Rows.CodecDecodeSpecCardSaid :=
  Claim7.holds_tied_plain_at .later [] _ _ _ _ codecDecodeSpec_said (fun _ h => by cases h) (by kernel_rfl) (fun _ h => by cases h) codecDecodeSpec_row_tie rfl ⟨rfl, rfl⟩ (by kernel_rfl) rfl codecDecodeSpec_plain (by kernel_rfl)
#print axioms codecDecodeSpec_holds
end Go.Proofs.YtimalbkjflfdoaaDoor
