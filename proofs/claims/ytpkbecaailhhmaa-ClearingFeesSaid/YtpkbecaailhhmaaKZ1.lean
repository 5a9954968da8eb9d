/-
  Texts that belong together, one behind the other; what each of them proves, and under which conditions, its own heading says.
-/
import Derived.Test.YtpkbecaailhhmaaKf
/-
  ClearingFees returns true for every input and changes none of its arguments. No condition beside the row's own.
-/
namespace Go.Proofs.Ytpkbecaailhhmaa
open Go.DL Go.ChangeShapes Go.WideShapes Go.ChangeAt Go.RowKit
set_option maxRecDepth 100000
theorem cfees_lifted (os : Os) (started : os.Started) (H : Type) (enc : TypeId × Value → H) :
    ReturnsInHanded {} Try.checked os 9 .any (Rows.clearingFeesSpec.pre6 enc Try.prog Try.f9 Rows.clearingFeesRow.domain false) (Rows.clearingFeesSpec.post enc Try.prog Try.f9 false true false false) := by
  refine returnsInHanded_of_change_sized (C := Try.checked) Try.own started (by kernel_rfl) Try.func9
    (ChangeSpec.witness6 (enc := enc) (C := Try.checked) false ⟨#[], #[.agg #[.int .i64 0, .int .i64 0, .int .i64 0, .int .i64 0, .slice none 0 0], .int .i64 0, .int .i64 0, .int .i64 0], []⟩ 8 (by kernel_rfl) (by kernel_rfl) (by kernel_rfl) (by kernel_rfl)) ?_
  intro W base args ds gs before hval0 hW hcnd hwt0 _
  have hval : ∀ (j : Nat) t v, Try.f9.params[j]? = some t → args[j]? = some v → Value.okWide Try.prog W .any base t v := hval0
  have hwt : (DataW.weightsEach Try.prog (Try.f9.params.toList ++ Rows.clearingFeesSpec.plain.varTypes Try.prog) (ds ++ gs)).all (· ≤ reachBytes) = true := hwt0
  clear hval0 hwt0
  have hW' := hW
  obtain ⟨p, q, hA0, hV, rfl, hfz, hnd⟩ := hW
  have hA : DataW.TrodAll enc Try.prog W 0 (fun _ => true) true Try.f9.params.toList args.toList ds p := hA0
  rw [Try.params9] at hA hval
  obtain ⟨v0, v1, v2, v3, d0, d1, d2, d3, p0, p1, p2, p3, rfl, rfl, rfl, h0, h1, h2, h3⟩ := trodAll_four hA
  obtain ⟨rfl, rfl⟩ := trodVars_none hV
  have hw : ∀ n ∈ DataW.weightsEach Try.prog [59, 3, 3, 3] [d0, d1, d2, d3], n ≤ reachBytes := by
    intro n hn
    have := List.all_eq_true.1 hwt n hn
    exact of_decide_eq_true this
  simp only [DataW.weightsEach, List.mem_append] at hw
  obtain ⟨a0, r0, g0⟩ := arg_agg decFee h0 (hval 0 59 v0 rfl rfl) (by kernel_rfl)
  have k0 := g0 fun n hn => hw n (.inl hn)
  obtain ⟨a1, r1, g1⟩ := arg_one decInt h1 (hval 1 3 v1 rfl rfl) (no_agg_int undInt)
  have k1 := g1 fun n hn => hw n (.inr (.inl hn))
  obtain ⟨a2, r2, g2⟩ := arg_one decInt h2 (hval 2 3 v2 rfl rfl) (no_agg_int undInt)
  have k2 := g2 fun n hn => hw n (.inr (.inr (.inl hn)))
  obtain ⟨a3, r3, g3⟩ := arg_one decInt h3 (hval 3 3 v3 rfl rfl) (no_agg_int undInt)
  have k3 := g3 fun n hn => hw n (.inr (.inr (.inr (.inl hn))))
  exact law_call hW' Try.laidOut (by intro t ht; rw [Try.params9] at ht; simp at ht; rcases ht with rfl | rfl <;> exact ⟨by kernel_rfl, of_decide_eq_true (by kernel_rfl)⟩) 4 (by kernel_rfl) undBool rfl rfl
    [_, _, _, _] rfl (fun j c hj => match j, hj with
      | 0, hj => by simp at hj; subst hj; exact ⟨v0, rfl, r0⟩
      | 1, hj => by simp at hj; subst hj; exact ⟨v1, rfl, r1⟩
      | 2, hj => by simp at hj; subst hj; exact ⟨v2, rfl, r2⟩
      | 3, hj => by simp at hj; subst hj; exact ⟨v3, rfl, r3⟩
      | j + 4, hj => by simp at hj) (ret_law9 a0 a1 a2 a3 k0)

theorem cfees_holds : Rows.ClearingFeesSaid :=
  OpenClaim.holds_of_wide 9 Try.f9 rfl rfl rfl rfl rfl rfl rfl ⟨rfl, rfl, rfl, rfl, rfl⟩ rfl rfl rfl rfl rfl (by kernel_rfl) Try.func9 (by kernel_rfl)
    (of_decide_eq_true (by kernel_rfl)) (by unfold Func.isWrapper; first | (rw [if_pos (by decide +kernel)]; kernel_rfl) | (rw [if_neg (by decide +kernel)]; exact ⟨rfl, rfl⟩))
    (fun os started H enc _ => cfees_lifted os started H enc)
#print axioms cfees_holds
end Go.Proofs.Ytpkbecaailhhmaa
