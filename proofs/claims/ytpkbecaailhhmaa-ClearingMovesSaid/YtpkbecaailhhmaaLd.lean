/-
  ClearingMoves returns true for every input and changes none of its arguments. No condition beside the row's own.
-/
import Derived.Test.YtpkbecaailhhmaaWj
import Derived.Test.YtpkbecaailhhmaaBr
namespace Go.Proofs.Ytpkbecaailhhmaa
open Go.DL Go.ChangeShapes Go.WideShapes Go.ChangeAt Go.RowKit
set_option maxRecDepth 100000
theorem moves_lifted (os : Os) (started : os.Started) (H : Type) (enc : TypeId × Value → H) :
    ReturnsInHanded {} Try.checked os 6 .any (Rows.clearingMovesSpec.pre6 enc Try.prog Try.f6 Rows.clearingMovesRow.domain false) (Rows.clearingMovesSpec.post enc Try.prog Try.f6 false true false false) := by
  refine returnsInHanded_of_change_sized (C := Try.checked) Try.own started (by kernel_rfl) Try.func6
    (ChangeSpec.witness6 (enc := enc) (C := Try.checked) false ⟨#[], #[.slice none 0 0, .slice none 0 0, .agg #[.int .i64 0, .int .i64 0, .int .i64 0, .int .i64 0, .slice none 0 0, .bool false]], []⟩ 8 (by kernel_rfl) (by kernel_rfl) (by kernel_rfl) (by kernel_rfl)) ?_
  intro W base args ds gs before hval0 hW hcnd hwt0 _
  have hval : ∀ (j : Nat) t v, Try.f6.params[j]? = some t → args[j]? = some v → Value.okWide Try.prog W .any base t v := hval0
  have hwt : (DataW.weightsEach Try.prog (Try.f6.params.toList ++ Rows.clearingMovesSpec.plain.varTypes Try.prog) (ds ++ gs)).all (· ≤ reachBytes) = true := hwt0
  clear hval0 hwt0
  have hW' := hW
  obtain ⟨p, q, hA0, hV, rfl, hfz, hnd⟩ := hW
  have hA : DataW.TrodAll enc Try.prog W 0 (fun _ => true) true Try.f6.params.toList args.toList ds p := hA0
  rw [Try.params6] at hA hval
  obtain ⟨v0, v1, v2, d0, d1, d2, p0, p1, p2, rfl, rfl, rfl, h0, h1, h2⟩ := trodAll_three hA
  obtain ⟨rfl, rfl⟩ := trodVars_none hV
  have hw : ∀ n ∈ DataW.weightsEach Try.prog [22, 41, 39] [d0, d1, d2], n ≤ reachBytes := by
    intro n hn
    have := List.all_eq_true.1 hwt n hn
    exact of_decide_eq_true this
  simp only [DataW.weightsEach, List.mem_append] at hw
  obtain ⟨a0, r0, g0⟩ := arg_one decInts h0 (hval 0 22 v0 rfl rfl) (no_agg_slice und22)
  have k0 := g0 fun n hn => hw n (.inl hn)
  obtain ⟨a1, r1, g1⟩ := arg_one decSteps h1 (hval 1 41 v1 rfl rfl) (no_agg_slice und41)
  have k1 := g1 fun n hn => hw n (.inr (.inl hn))
  obtain ⟨a2, r2, g2⟩ := arg_agg decStep h2 (hval 2 39 v2 rfl rfl) (by kernel_rfl)
  have k2 := g2 fun n hn => hw n (.inr (.inr (.inl hn)))
  exact law_call hW' Try.laidOut (by intro t ht; rw [Try.params6] at ht; simp at ht; rcases ht with rfl | rfl | rfl <;> exact ⟨by kernel_rfl, of_decide_eq_true (by kernel_rfl)⟩) 4 (by kernel_rfl) und4 rfl rfl
    [_, _, _] rfl (fun j c hj => match j, hj with
      | 0, hj => by simp at hj; subst hj; exact ⟨v0, rfl, r0⟩
      | 1, hj => by simp at hj; subst hj; exact ⟨v1, rfl, r1⟩
      | 2, hj => by simp at hj; subst hj; exact ⟨v2, rfl, r2⟩
      | j + 3, hj => by simp at hj) (ret_law6 a0 a1 a2 (reach_lt k0.1 (by decide)) k1.1 k1.2 k2)

theorem moves_holds : Rows.ClearingMovesSaid :=
  OpenClaim.holds_of_wide 6 Try.f6 rfl rfl rfl rfl rfl rfl rfl ⟨rfl, rfl, rfl, rfl, rfl⟩ rfl rfl rfl rfl rfl (by kernel_rfl) Try.func6 (by kernel_rfl)
    (of_decide_eq_true (by kernel_rfl)) (by unfold Func.isWrapper; first | (rw [if_pos (by decide +kernel)]; kernel_rfl) | (rw [if_neg (by decide +kernel)]; exact ⟨rfl, rfl⟩))
    (fun os started H enc _ => moves_lifted os started H enc)
#print axioms moves_holds
end Go.Proofs.Ytpkbecaailhhmaa
