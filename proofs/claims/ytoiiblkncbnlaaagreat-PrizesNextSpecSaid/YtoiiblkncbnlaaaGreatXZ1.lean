/-
  Texts that belong together, one behind the other; what each of them proves, and under which conditions, its own heading says.
-/
import Derived.Test.YtoiiblkncbnlaaaGreatXf
/-
  PrizesNextSpec returns true for every input and changes none of its arguments. No condition beside the row's own.
-/
namespace Go.Proofs.YtoiiblkncbnlaaaGreat
open Go.DL Go.ChangeShapes Go.WideShapes Go.ChangeAt Go.RowKit
set_option maxRecDepth 100000
set_option linter.unusedVariables false
set_option linter.unusedSimpArgs false
theorem nextSpec_lifted (os : Os) (started : os.Started) (H : Type) (enc : TypeId × Value → H) :
    ReturnsInHanded {} Tryz.checked os 5 .any (Rows.prizesNextSpecSpec.pre6 enc Tryz.prog Tryz.f5 Rows.prizesNextSpecRow.domain false) (Rows.prizesNextSpecSpec.post enc Tryz.prog Tryz.f5 false true false false) := by
  refine returnsInHanded_of_change_sized (C := Tryz.checked) Tryz.own started (by kernel_rfl) Tryz.func5
    (ChangeSpec.witness6 (enc := enc) (C := Tryz.checked) false ⟨#[], #[.slice none 0 0, .slice none 0 0, .int .i64 0], []⟩ 8 (by kernel_rfl) (by kernel_rfl) (by kernel_rfl) (by kernel_rfl)) ?_
  intro W base args ds gs before hval0 hW hcnd hwt0 _
  have hval : ∀ (j : Nat) t v, Tryz.f5.params[j]? = some t → args[j]? = some v → Value.okWide Tryz.prog W .any base t v := hval0
  have hwt : (DataW.weightsEach Tryz.prog (Tryz.f5.params.toList ++ Rows.prizesNextSpecSpec.plain.varTypes Tryz.prog) (ds ++ gs)).all (· ≤ reachBytes) = true := hwt0
  clear hval0 hwt0
  have hW' := hW
  obtain ⟨p, q, hA0, hV, rfl, hfz, hnd⟩ := hW
  have hA : DataW.TrodAll enc Tryz.prog W 0 (fun _ => true) true Tryz.f5.params.toList args.toList ds p := hA0
  rw [Tryz.params5] at hA hval
  obtain ⟨v0, v1, v2, d0, d1, d2, p0, p1, p2, rfl, rfl, rfl, h0, h1, h2⟩ := trodAll_three hA
  obtain ⟨rfl, rfl⟩ := trodVars_none hV
  have hw : ∀ n ∈ DataW.weightsEach Tryz.prog [30, 31, 3] [d0, d1, d2], n ≤ reachBytes := by
    intro n hn
    have := List.all_eq_true.1 hwt n hn
    exact of_decide_eq_true this
  simp only [DataW.weightsEach, List.mem_append] at hw
  obtain ⟨x0, r0, g0⟩ := arg_one d_30 h0 (hval 0 30 v0 rfl rfl) (no_agg_slice und30)
  have k0 := g0 fun n hn => hw n (.inl hn)
  obtain ⟨x1, r1, g1⟩ := arg_one d_31 h1 (hval 1 31 v1 rfl rfl) (no_agg_slice und31)
  have k1 := g1 fun n hn => hw n (.inr (.inl hn))
  obtain ⟨x2, r2, g2⟩ := arg_one d_3 h2 (hval 2 3 v2 rfl rfl) (no_agg_int und3)
  have k2 := g2 fun n hn => hw n (.inr (.inr (.inl hn)))
  exact law_call hW' Tryz.laidOut (by intro t ht; rw [Tryz.params5] at ht; simp at ht; rcases ht with rfl | rfl | rfl <;> exact ⟨by kernel_rfl, of_decide_eq_true (by kernel_rfl)⟩) 4 (by kernel_rfl) und4 rfl rfl
    [_, _, _] rfl (fun j c hj => match j, hj with
      | 0, hj => by simp at hj; subst hj; exact ⟨v0, rfl, r0⟩
      | 1, hj => by simp at hj; subst hj; exact ⟨v1, rfl, r1⟩
      | 2, hj => by simp at hj; subst hj; exact ⟨v2, rfl, r2⟩
      | j + 3, hj => by simp at hj) (g_law42_PrizesNextSpec_ret (nextSpec_eq x0 x1 x2))
theorem nextSpec_holds : Rows.PrizesNextSpecSaid :=
  OpenClaim.holds_of_wide 5 Tryz.f5 rfl rfl rfl rfl rfl rfl rfl ⟨rfl, rfl, rfl, rfl, rfl⟩ rfl rfl rfl rfl rfl (by kernel_rfl) Tryz.func5 (by kernel_rfl)
    (of_decide_eq_true (by kernel_rfl)) (by unfold Func.isWrapper; first | (rw [if_pos (by decide +kernel)]; kernel_rfl) | (rw [if_neg (by decide +kernel)]; exact ⟨rfl, rfl⟩))
    (fun os started H enc _ => nextSpec_lifted os started H enc)
#print axioms nextSpec_holds
end Go.Proofs.YtoiiblkncbnlaaaGreat
