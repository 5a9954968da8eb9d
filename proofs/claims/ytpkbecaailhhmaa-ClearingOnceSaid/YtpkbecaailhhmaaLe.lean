/-
  ClearingOnce returns true for every input and changes none of its arguments. No condition beside the row's own.
-/
import Derived.Test.YtpkbecaailhhmaaWk
import Derived.Test.YtpkbecaailhhmaaBr
namespace Go.Proofs.Ytpkbecaailhhmaa
open Go.DL Go.ChangeShapes Go.WideShapes Go.ChangeAt Go.RowKit
set_option maxRecDepth 100000
theorem once_lifted (os : Os) (started : os.Started) (H : Type) (enc : TypeId × Value → H) :
    ReturnsInHanded {} Try.checked os 7 .any (Rows.clearingOnceSpec.pre6 enc Try.prog Try.f7 Rows.clearingOnceRow.domain false) (Rows.clearingOnceSpec.post enc Try.prog Try.f7 false true false false) := by
  refine returnsInHanded_of_change_sized (C := Try.checked) Try.own started (by kernel_rfl) Try.func7
    (ChangeSpec.witness6 (enc := enc) (C := Try.checked) false ⟨#[], #[.slice none 0 0, .slice none 0 0, .slice none 0 0], []⟩ 8 (by kernel_rfl) (by kernel_rfl) (by kernel_rfl) (by kernel_rfl)) ?_
  intro W base args ds gs before hval0 hW hcnd hwt0 _
  have hval : ∀ (j : Nat) t v, Try.f7.params[j]? = some t → args[j]? = some v → Value.okWide Try.prog W .any base t v := hval0
  have hwt : (DataW.weightsEach Try.prog (Try.f7.params.toList ++ Rows.clearingOnceSpec.plain.varTypes Try.prog) (ds ++ gs)).all (· ≤ reachBytes) = true := hwt0
  clear hval0 hwt0
  have hW' := hW
  obtain ⟨p, q, hA0, hV, rfl, hfz, hnd⟩ := hW
  have hA : DataW.TrodAll enc Try.prog W 0 (fun _ => true) true Try.f7.params.toList args.toList ds p := hA0
  rw [Try.params7] at hA hval
  obtain ⟨v0, v1, v2, d0, d1, d2, p0, p1, p2, rfl, rfl, rfl, h0, h1, h2⟩ := trodAll_three hA
  obtain ⟨rfl, rfl⟩ := trodVars_none hV
  have hw : ∀ n ∈ DataW.weightsEach Try.prog [22, 41, 41] [d0, d1, d2], n ≤ reachBytes := by
    intro n hn
    have := List.all_eq_true.1 hwt n hn
    exact of_decide_eq_true this
  simp only [DataW.weightsEach, List.mem_append] at hw
  obtain ⟨a0, r0, g0⟩ := arg_one decInts h0 (hval 0 22 v0 rfl rfl) (no_agg_slice und22)
  have k0 := g0 fun n hn => hw n (.inl hn)
  obtain ⟨a1, r1, g1⟩ := arg_one decSteps h1 (hval 1 41 v1 rfl rfl) (no_agg_slice und41)
  have k1 := g1 fun n hn => hw n (.inr (.inl hn))
  obtain ⟨a2, r2, g2⟩ := arg_one decSteps h2 (hval 2 41 v2 rfl rfl) (no_agg_slice und41)
  have k2 := g2 fun n hn => hw n (.inr (.inr (.inl hn)))
  exact law_call hW' Try.laidOut (by intro t ht; rw [Try.params7] at ht; simp at ht; rcases ht with rfl | rfl <;> exact ⟨by kernel_rfl, of_decide_eq_true (by kernel_rfl)⟩) 4 (by kernel_rfl) und4 rfl rfl
    [_, _, _] rfl (fun j c hj => match j, hj with
      | 0, hj => by simp at hj; subst hj; exact ⟨v0, rfl, r0⟩
      | 1, hj => by simp at hj; subst hj; exact ⟨v1, rfl, r1⟩
      | 2, hj => by simp at hj; subst hj; exact ⟨v2, rfl, r2⟩
      | j + 3, hj => by simp at hj) (ret_law7 a0 a1 a2 (reach_lt k0.1 (by decide)) k1.1 k1.2 k2.1 k2.2)

theorem once_holds : Rows.ClearingOnceSaid :=
  OpenClaim.holds_of_wide 7 Try.f7 rfl rfl rfl rfl rfl rfl rfl ⟨rfl, rfl, rfl, rfl, rfl⟩ rfl rfl rfl rfl rfl (by kernel_rfl) Try.func7 (by kernel_rfl)
    (of_decide_eq_true (by kernel_rfl)) (by unfold Func.isWrapper; first | (rw [if_pos (by decide +kernel)]; kernel_rfl) | (rw [if_neg (by decide +kernel)]; exact ⟨rfl, rfl⟩))
    (fun os started H enc _ => once_lifted os started H enc)
#print axioms once_holds
end Go.Proofs.Ytpkbecaailhhmaa
