/-
  Texts that belong together, one behind the other; what each of them proves, and under which conditions, its own heading says.
-/
import Derived.Test.YthpjlkpkhlkhbaaRows
import Derived.RangeFuncNested
import Derived.RangeFuncBound
import Derived.RangeFuncCalls
import Derived.RangeFuncLeaves
import Derived.Shelf.Abstract
import Derived.Shelf.RegionOpen
import Derived.WalkKit
import Derived.OwnWalkIn
import Derived.TacticsInMore
import Derived.LoopNIn
import Derived.LoopIn
import Derived.Shelf.SlSortCmp.WholeK
import Derived.Shelf.SlicesG.Cmp
import Derived.Shelf.SlIterI.Sorted
import Derived.Shelf.SlIterI.Keys
import Derived.Shelf.SortM.Plain
import Derived.Shelf.SortM.SortNone
import Derived.Ground.SlsfProg
import Derived.Ground.SlgcProg
import Derived.Ground.GgzProg
import Derived.Ground.SlgmProg
import Derived.Test.YthpjlkpkhlkhbaaProg
import Derived.Shelf.RegionOpenPlain
import Derived.OpenShut
import Derived.StillTailTactics
import Derived.Test.YthpjlkpkhlkhbaaKc
/-
  Walks at the data level, printed by gen.py: what each Go function returns, for data that reads as said. Conditions: those of each theorem.
-/
namespace Go.Proofs.Ythpjlkpkhlkhbaa
open Go.DL
set_option maxRecDepth 100000
set_option linter.unusedVariables false
set_option linter.unusedSimpArgs false
theorem ret_chkR (f : Fee) (ht : f.t.length ≤ 140737488355328) : Ret Try.prog 17 [(.agg [(I f.a), (I f.p), (I f.m), (I f.s), (.sl 2 (f.t.map encTrain))])] (I (chk f)) := by
  refine Ret.of_T Try.func17 (by kernel_rfl) rfl ?_
  refine T_turn [] [0] [] (mk 105 [(0, (.agg [(.dat (I f.a)), (.dat (I f.p)), (.dat (I f.m)), (.dat (I f.s)), (.dat (.sl 2 (f.t.map encTrain)))]))] []) (by kernel_rfl) ?_
  refine T_reg [] [1] [] (mk 105 [(1, (.one (.ref 1 0)))] [(1, (.var [(.dat (I f.a)), (.dat (I f.p)), (.dat (I f.m)), (.dat (I f.s)), (.dat (.sl 2 (f.t.map encTrain)))]))]) (True ∧ True ∧ True ∧ True ∧ True) (by kernel_rfl) ⟨trivial, trivial, trivial, trivial, trivial⟩ ?_
  refine T_seq ?_
  rcases Bool.eq_false_or_eq_true (decide (f.a < 0)) with h1 | h1
  · skip
    have g2 : f.a < 0 := of_decide_eq_true (h1)
    refine T_reg [{}, {}, {}, {}, { g := false }, { g := false }, { g := false }, { d := some (B true) }, {}, { g := false }, { g := false }, { g := false }, { d := some (B true) }, {}, { g := false }, { g := false }, { g := false }, { d := some (B true) }, {}, { g := false }, { g := false }, { g := false }, { d := some (B true) }, {}, { g := false }, { g := false }, { g := false }, { d := some (B true) }, {}, { g := false }, { g := false }, { g := false }, { d := some (B true) }, {}, { g := false }, { g := false }, { g := false }, { d := some (B true) }, {}, { g := false }, { g := false }, { g := false }, { g := false }, {}, {}, {}, { g := false }, { d := some (B true) }, {}, { g := false }, { g := false }, { g := false }, { g := false }, { d := some (B true) }] [1, 58] [] (mk 105 [(1, (.one (.ref 1 0))), (58, (dt (B true)))] [(1, (.var [(.dat (I f.a)), (.dat (I f.p)), (.dat (I f.m)), (.dat (I f.s)), (.dat (.sl 2 (f.t.map encTrain)))]))]) (True ∧ True ∧ True ∧ True ∧ True ∧ True ∧ True ∧ True ∧ (((decide (f.a < 0)) == false) = false) ∧ (((decide (f.a < 0)) == false) = false) ∧ (((decide (f.a < 0)) == false) = false) ∧ True ∧ ((decide (f.a < 0)) = true) ∧ True ∧ True ∧ ((true == false) = false) ∧ ((true == false) = false) ∧ ((true == false) = false) ∧ True ∧ (true = true) ∧ True ∧ True ∧ ((true == false) = false) ∧ ((true == false) = false) ∧ ((true == false) = false) ∧ True ∧ (true = true) ∧ True ∧ True ∧ ((true == false) = false) ∧ ((true == false) = false) ∧ ((true == false) = false) ∧ True ∧ (true = true) ∧ True ∧ True ∧ ((true == false) = false) ∧ ((true == false) = false) ∧ ((true == false) = false) ∧ True ∧ (true = true) ∧ True ∧ True ∧ ((true == false) = false) ∧ ((true == false) = false) ∧ ((true == false) = false) ∧ True ∧ (true = true) ∧ True ∧ True ∧ ((true == false) = false) ∧ ((true == false) = false) ∧ ((true == false) = false) ∧ True ∧ (true = true) ∧ True ∧ True ∧ ((true == false) = false) ∧ ((true == false) = false) ∧ ((true == false) = false) ∧ ((true == false) = false) ∧ True ∧ True ∧ True ∧ ((true == false) = false) ∧ True ∧ (true = true) ∧ True ∧ True ∧ ((true == false) = false) ∧ ((true == false) = false) ∧ ((true == false) = false) ∧ ((true == false) = false) ∧ True ∧ (true = true) ∧ True) (by kernel_rfl) ⟨trivial, trivial, trivial, trivial, trivial, trivial, trivial, trivial, (by rw [show (decide (f.a < 0)) = true from h1]; rfl), (by rw [show (decide (f.a < 0)) = true from h1]; rfl), (by rw [show (decide (f.a < 0)) = true from h1]; rfl), trivial, h1, trivial, trivial, (by rw [show true = true from rfl]; rfl), (by rw [show true = true from rfl]; rfl), (by rw [show true = true from rfl]; rfl), trivial, rfl, trivial, trivial, (by rw [show true = true from rfl]; rfl), (by rw [show true = true from rfl]; rfl), (by rw [show true = true from rfl]; rfl), trivial, rfl, trivial, trivial, (by rw [show true = true from rfl]; rfl), (by rw [show true = true from rfl]; rfl), (by rw [show true = true from rfl]; rfl), trivial, rfl, trivial, trivial, (by rw [show true = true from rfl]; rfl), (by rw [show true = true from rfl]; rfl), (by rw [show true = true from rfl]; rfl), trivial, rfl, trivial, trivial, (by rw [show true = true from rfl]; rfl), (by rw [show true = true from rfl]; rfl), (by rw [show true = true from rfl]; rfl), trivial, rfl, trivial, trivial, (by rw [show true = true from rfl]; rfl), (by rw [show true = true from rfl]; rfl), (by rw [show true = true from rfl]; rfl), trivial, rfl, trivial, trivial, (by rw [show true = true from rfl]; rfl), (by rw [show true = true from rfl]; rfl), (by rw [show true = true from rfl]; rfl), (by rw [show true = true from rfl]; rfl), trivial, trivial, trivial, (by rw [show true = true from rfl]; rfl), trivial, rfl, trivial, trivial, (by rw [show true = true from rfl]; rfl), (by rw [show true = true from rfl]; rfl), (by rw [show true = true from rfl]; rfl), (by rw [show true = true from rfl]; rfl), trivial, rfl, trivial⟩ ?_
    refine T_cond true (by kernel_rfl) (fun _ => ?_) (fun h => absurd (h.symm.trans rfl) (by decide))
    refine T_reg [] [2] [1] (mk 105 [(2, (dt (I 380)))] []) (True ∧ True ∧ True) (by kernel_rfl) ⟨trivial, trivial, trivial⟩ ?_
    refine T_ret ?_
    exact ret_here [(dt (I 380))] (by kernel_rfl) (.inl (congrArg I (by first | exact chk_bad (by unfold headOK; simp only [decide_eq_true_eq, decide_eq_false_iff_not] at *; omega) | exact chk_bad2 (trOK_stop iv (by assumption) (by first | (simp only [decide_eq_true_eq, decide_eq_false_iff_not] at *; omega) | omega | (simp only [decide_eq_true_eq, decide_eq_false_iff_not] at *; by_cases hk : k = 0 <;> first | omega | (have := ip hk; omega)))) | exact chk_ok (by unfold headOK; simp only [decide_eq_true_eq, decide_eq_false_iff_not] at *; omega) (trOK_end iv (by omega)) : 380 = (chk f))))
  · skip
    have g3 : ¬ (f.a < 0) := of_decide_eq_false (h1)
    rcases Bool.eq_false_or_eq_true (decide (f.a > 1125899906842624)) with h4 | h4
    · skip
      have g5 : f.a > 1125899906842624 := of_decide_eq_true (h4)
      refine T_reg [{}, {}, {}, {}, {}, {}, {}, { d := some (B false) }, {}, { g := false }, { g := false }, { g := false }, { d := some (B true) }, {}, { g := false }, { g := false }, { g := false }, { d := some (B true) }, {}, { g := false }, { g := false }, { g := false }, { d := some (B true) }, {}, { g := false }, { g := false }, { g := false }, { d := some (B true) }, {}, { g := false }, { g := false }, { g := false }, { d := some (B true) }, {}, { g := false }, { g := false }, { g := false }, { d := some (B true) }, {}, { g := false }, { g := false }, { g := false }, { g := false }, {}, {}, {}, { g := false }, { d := some (B true) }, {}, { g := false }, { g := false }, { g := false }, { g := false }, { d := some (B true) }] [1, 58] [] (mk 105 [(1, (.one (.ref 1 0))), (58, (dt (B true)))] [(1, (.var [(.dat (I f.a)), (.dat (I f.p)), (.dat (I f.m)), (.dat (I f.s)), (.dat (.sl 2 (f.t.map encTrain)))]))]) (True ∧ True ∧ True ∧ True ∧ True ∧ True ∧ True ∧ True ∧ (((decide (f.a < 0)) == false) = true) ∧ True ∧ (((decide (f.a < 0)) == false) = true) ∧ True ∧ (((decide (f.a < 0)) == false) = true) ∧ True ∧ True ∧ ((decide (f.a < 0)) = false) ∧ True ∧ True ∧ (((decide (f.a > 1125899906842624)) == false) = false) ∧ (((decide (f.a > 1125899906842624)) == false) = false) ∧ (((decide (f.a > 1125899906842624)) == false) = false) ∧ True ∧ ((decide (f.a > 1125899906842624)) = true) ∧ True ∧ True ∧ ((true == false) = false) ∧ ((true == false) = false) ∧ ((true == false) = false) ∧ True ∧ (true = true) ∧ True ∧ True ∧ ((true == false) = false) ∧ ((true == false) = false) ∧ ((true == false) = false) ∧ True ∧ (true = true) ∧ True ∧ True ∧ ((true == false) = false) ∧ ((true == false) = false) ∧ ((true == false) = false) ∧ True ∧ (true = true) ∧ True ∧ True ∧ ((true == false) = false) ∧ ((true == false) = false) ∧ ((true == false) = false) ∧ True ∧ (true = true) ∧ True ∧ True ∧ ((true == false) = false) ∧ ((true == false) = false) ∧ ((true == false) = false) ∧ True ∧ (true = true) ∧ True ∧ True ∧ ((true == false) = false) ∧ ((true == false) = false) ∧ ((true == false) = false) ∧ ((true == false) = false) ∧ True ∧ True ∧ True ∧ ((true == false) = false) ∧ True ∧ (true = true) ∧ True ∧ True ∧ ((true == false) = false) ∧ ((true == false) = false) ∧ ((true == false) = false) ∧ ((true == false) = false) ∧ True ∧ (true = true) ∧ True) (by kernel_rfl) ⟨trivial, trivial, trivial, trivial, trivial, trivial, trivial, trivial, (by rw [show (decide (f.a < 0)) = false from h1]; rfl), trivial, (by rw [show (decide (f.a < 0)) = false from h1]; rfl), trivial, (by rw [show (decide (f.a < 0)) = false from h1]; rfl), trivial, trivial, h1, trivial, trivial, (by rw [show (decide (f.a > 1125899906842624)) = true from h4]; rfl), (by rw [show (decide (f.a > 1125899906842624)) = true from h4]; rfl), (by rw [show (decide (f.a > 1125899906842624)) = true from h4]; rfl), trivial, h4, trivial, trivial, (by rw [show true = true from rfl]; rfl), (by rw [show true = true from rfl]; rfl), (by rw [show true = true from rfl]; rfl), trivial, rfl, trivial, trivial, (by rw [show true = true from rfl]; rfl), (by rw [show true = true from rfl]; rfl), (by rw [show true = true from rfl]; rfl), trivial, rfl, trivial, trivial, (by rw [show true = true from rfl]; rfl), (by rw [show true = true from rfl]; rfl), (by rw [show true = true from rfl]; rfl), trivial, rfl, trivial, trivial, (by rw [show true = true from rfl]; rfl), (by rw [show true = true from rfl]; rfl), (by rw [show true = true from rfl]; rfl), trivial, rfl, trivial, trivial, (by rw [show true = true from rfl]; rfl), (by rw [show true = true from rfl]; rfl), (by rw [show true = true from rfl]; rfl), trivial, rfl, trivial, trivial, (by rw [show true = true from rfl]; rfl), (by rw [show true = true from rfl]; rfl), (by rw [show true = true from rfl]; rfl), (by rw [show true = true from rfl]; rfl), trivial, trivial, trivial, (by rw [show true = true from rfl]; rfl), trivial, rfl, trivial, trivial, (by rw [show true = true from rfl]; rfl), (by rw [show true = true from rfl]; rfl), (by rw [show true = true from rfl]; rfl), (by rw [show true = true from rfl]; rfl), trivial, rfl, trivial⟩ ?_
      refine T_cond true (by kernel_rfl) (fun _ => ?_) (fun h => absurd (h.symm.trans rfl) (by decide))
      refine T_reg [] [2] [1] (mk 105 [(2, (dt (I 380)))] []) (True ∧ True ∧ True) (by kernel_rfl) ⟨trivial, trivial, trivial⟩ ?_
      refine T_ret ?_
      exact ret_here [(dt (I 380))] (by kernel_rfl) (.inl (congrArg I (by first | exact chk_bad (by unfold headOK; simp only [decide_eq_true_eq, decide_eq_false_iff_not] at *; omega) | exact chk_bad2 (trOK_stop iv (by assumption) (by first | (simp only [decide_eq_true_eq, decide_eq_false_iff_not] at *; omega) | omega | (simp only [decide_eq_true_eq, decide_eq_false_iff_not] at *; by_cases hk : k = 0 <;> first | omega | (have := ip hk; omega)))) | exact chk_ok (by unfold headOK; simp only [decide_eq_true_eq, decide_eq_false_iff_not] at *; omega) (trOK_end iv (by omega)) : 380 = (chk f))))
    · skip
      have g6 : ¬ (f.a > 1125899906842624) := of_decide_eq_false (h4)
      rcases Bool.eq_false_or_eq_true (decide (f.p < 0)) with h7 | h7
      · skip
        have g8 : f.p < 0 := of_decide_eq_true (h7)
        refine T_reg [{}, {}, {}, {}, {}, {}, {}, { d := some (B false) }, {}, {}, {}, {}, { d := some (B false) }, {}, { g := false }, { g := false }, { g := false }, { d := some (B true) }, {}, { g := false }, { g := false }, { g := false }, { d := some (B true) }, {}, { g := false }, { g := false }, { g := false }, { d := some (B true) }, {}, { g := false }, { g := false }, { g := false }, { d := some (B true) }, {}, { g := false }, { g := false }, { g := false }, { d := some (B true) }, {}, { g := false }, { g := false }, { g := false }, { g := false }, {}, {}, {}, { g := false }, { d := some (B true) }, {}, { g := false }, { g := false }, { g := false }, { g := false }, { d := some (B true) }] [1, 58] [] (mk 105 [(1, (.one (.ref 1 0))), (58, (dt (B true)))] [(1, (.var [(.dat (I f.a)), (.dat (I f.p)), (.dat (I f.m)), (.dat (I f.s)), (.dat (.sl 2 (f.t.map encTrain)))]))]) (True ∧ True ∧ True ∧ True ∧ True ∧ True ∧ True ∧ True ∧ (((decide (f.a < 0)) == false) = true) ∧ True ∧ (((decide (f.a < 0)) == false) = true) ∧ True ∧ (((decide (f.a < 0)) == false) = true) ∧ True ∧ True ∧ ((decide (f.a < 0)) = false) ∧ True ∧ True ∧ (((decide (f.a > 1125899906842624)) == false) = true) ∧ True ∧ (((decide (f.a > 1125899906842624)) == false) = true) ∧ True ∧ (((decide (f.a > 1125899906842624)) == false) = true) ∧ True ∧ True ∧ ((decide (f.a > 1125899906842624)) = false) ∧ True ∧ True ∧ (((decide (f.p < 0)) == false) = false) ∧ (((decide (f.p < 0)) == false) = false) ∧ (((decide (f.p < 0)) == false) = false) ∧ True ∧ ((decide (f.p < 0)) = true) ∧ True ∧ True ∧ ((true == false) = false) ∧ ((true == false) = false) ∧ ((true == false) = false) ∧ True ∧ (true = true) ∧ True ∧ True ∧ ((true == false) = false) ∧ ((true == false) = false) ∧ ((true == false) = false) ∧ True ∧ (true = true) ∧ True ∧ True ∧ ((true == false) = false) ∧ ((true == false) = false) ∧ ((true == false) = false) ∧ True ∧ (true = true) ∧ True ∧ True ∧ ((true == false) = false) ∧ ((true == false) = false) ∧ ((true == false) = false) ∧ True ∧ (true = true) ∧ True ∧ True ∧ ((true == false) = false) ∧ ((true == false) = false) ∧ ((true == false) = false) ∧ ((true == false) = false) ∧ True ∧ True ∧ True ∧ ((true == false) = false) ∧ True ∧ (true = true) ∧ True ∧ True ∧ ((true == false) = false) ∧ ((true == false) = false) ∧ ((true == false) = false) ∧ ((true == false) = false) ∧ True ∧ (true = true) ∧ True) (by kernel_rfl) ⟨trivial, trivial, trivial, trivial, trivial, trivial, trivial, trivial, (by rw [show (decide (f.a < 0)) = false from h1]; rfl), trivial, (by rw [show (decide (f.a < 0)) = false from h1]; rfl), trivial, (by rw [show (decide (f.a < 0)) = false from h1]; rfl), trivial, trivial, h1, trivial, trivial, (by rw [show (decide (f.a > 1125899906842624)) = false from h4]; rfl), trivial, (by rw [show (decide (f.a > 1125899906842624)) = false from h4]; rfl), trivial, (by rw [show (decide (f.a > 1125899906842624)) = false from h4]; rfl), trivial, trivial, h4, trivial, trivial, (by rw [show (decide (f.p < 0)) = true from h7]; rfl), (by rw [show (decide (f.p < 0)) = true from h7]; rfl), (by rw [show (decide (f.p < 0)) = true from h7]; rfl), trivial, h7, trivial, trivial, (by rw [show true = true from rfl]; rfl), (by rw [show true = true from rfl]; rfl), (by rw [show true = true from rfl]; rfl), trivial, rfl, trivial, trivial, (by rw [show true = true from rfl]; rfl), (by rw [show true = true from rfl]; rfl), (by rw [show true = true from rfl]; rfl), trivial, rfl, trivial, trivial, (by rw [show true = true from rfl]; rfl), (by rw [show true = true from rfl]; rfl), (by rw [show true = true from rfl]; rfl), trivial, rfl, trivial, trivial, (by rw [show true = true from rfl]; rfl), (by rw [show true = true from rfl]; rfl), (by rw [show true = true from rfl]; rfl), trivial, rfl, trivial, trivial, (by rw [show true = true from rfl]; rfl), (by rw [show true = true from rfl]; rfl), (by rw [show true = true from rfl]; rfl), (by rw [show true = true from rfl]; rfl), trivial, trivial, trivial, (by rw [show true = true from rfl]; rfl), trivial, rfl, trivial, trivial, (by rw [show true = true from rfl]; rfl), (by rw [show true = true from rfl]; rfl), (by rw [show true = true from rfl]; rfl), (by rw [show true = true from rfl]; rfl), trivial, rfl, trivial⟩ ?_
        refine T_cond true (by kernel_rfl) (fun _ => ?_) (fun h => absurd (h.symm.trans rfl) (by decide))
        refine T_reg [] [2] [1] (mk 105 [(2, (dt (I 380)))] []) (True ∧ True ∧ True) (by kernel_rfl) ⟨trivial, trivial, trivial⟩ ?_
        refine T_ret ?_
        exact ret_here [(dt (I 380))] (by kernel_rfl) (.inl (congrArg I (by first | exact chk_bad (by unfold headOK; simp only [decide_eq_true_eq, decide_eq_false_iff_not] at *; omega) | exact chk_bad2 (trOK_stop iv (by assumption) (by first | (simp only [decide_eq_true_eq, decide_eq_false_iff_not] at *; omega) | omega | (simp only [decide_eq_true_eq, decide_eq_false_iff_not] at *; by_cases hk : k = 0 <;> first | omega | (have := ip hk; omega)))) | exact chk_ok (by unfold headOK; simp only [decide_eq_true_eq, decide_eq_false_iff_not] at *; omega) (trOK_end iv (by omega)) : 380 = (chk f))))
      · skip
        have g9 : ¬ (f.p < 0) := of_decide_eq_false (h7)
        rcases Bool.eq_false_or_eq_true (decide (f.p > 1125899906842624)) with h10 | h10
        · skip
          have g11 : f.p > 1125899906842624 := of_decide_eq_true (h10)
          refine T_reg [{}, {}, {}, {}, {}, {}, {}, { d := some (B false) }, {}, {}, {}, {}, { d := some (B false) }, {}, {}, {}, {}, { d := some (B false) }, {}, { g := false }, { g := false }, { g := false }, { d := some (B true) }, {}, { g := false }, { g := false }, { g := false }, { d := some (B true) }, {}, { g := false }, { g := false }, { g := false }, { d := some (B true) }, {}, { g := false }, { g := false }, { g := false }, { d := some (B true) }, {}, { g := false }, { g := false }, { g := false }, { g := false }, {}, {}, {}, { g := false }, { d := some (B true) }, {}, { g := false }, { g := false }, { g := false }, { g := false }, { d := some (B true) }] [1, 58] [] (mk 105 [(1, (.one (.ref 1 0))), (58, (dt (B true)))] [(1, (.var [(.dat (I f.a)), (.dat (I f.p)), (.dat (I f.m)), (.dat (I f.s)), (.dat (.sl 2 (f.t.map encTrain)))]))]) (True ∧ True ∧ True ∧ True ∧ True ∧ True ∧ True ∧ True ∧ (((decide (f.a < 0)) == false) = true) ∧ True ∧ (((decide (f.a < 0)) == false) = true) ∧ True ∧ (((decide (f.a < 0)) == false) = true) ∧ True ∧ True ∧ ((decide (f.a < 0)) = false) ∧ True ∧ True ∧ (((decide (f.a > 1125899906842624)) == false) = true) ∧ True ∧ (((decide (f.a > 1125899906842624)) == false) = true) ∧ True ∧ (((decide (f.a > 1125899906842624)) == false) = true) ∧ True ∧ True ∧ ((decide (f.a > 1125899906842624)) = false) ∧ True ∧ True ∧ (((decide (f.p < 0)) == false) = true) ∧ True ∧ (((decide (f.p < 0)) == false) = true) ∧ True ∧ (((decide (f.p < 0)) == false) = true) ∧ True ∧ True ∧ ((decide (f.p < 0)) = false) ∧ True ∧ True ∧ (((decide (f.p > 1125899906842624)) == false) = false) ∧ (((decide (f.p > 1125899906842624)) == false) = false) ∧ (((decide (f.p > 1125899906842624)) == false) = false) ∧ True ∧ ((decide (f.p > 1125899906842624)) = true) ∧ True ∧ True ∧ ((true == false) = false) ∧ ((true == false) = false) ∧ ((true == false) = false) ∧ True ∧ (true = true) ∧ True ∧ True ∧ ((true == false) = false) ∧ ((true == false) = false) ∧ ((true == false) = false) ∧ True ∧ (true = true) ∧ True ∧ True ∧ ((true == false) = false) ∧ ((true == false) = false) ∧ ((true == false) = false) ∧ True ∧ (true = true) ∧ True ∧ True ∧ ((true == false) = false) ∧ ((true == false) = false) ∧ ((true == false) = false) ∧ ((true == false) = false) ∧ True ∧ True ∧ True ∧ ((true == false) = false) ∧ True ∧ (true = true) ∧ True ∧ True ∧ ((true == false) = false) ∧ ((true == false) = false) ∧ ((true == false) = false) ∧ ((true == false) = false) ∧ True ∧ (true = true) ∧ True) (by kernel_rfl) ⟨trivial, trivial, trivial, trivial, trivial, trivial, trivial, trivial, (by rw [show (decide (f.a < 0)) = false from h1]; rfl), trivial, (by rw [show (decide (f.a < 0)) = false from h1]; rfl), trivial, (by rw [show (decide (f.a < 0)) = false from h1]; rfl), trivial, trivial, h1, trivial, trivial, (by rw [show (decide (f.a > 1125899906842624)) = false from h4]; rfl), trivial, (by rw [show (decide (f.a > 1125899906842624)) = false from h4]; rfl), trivial, (by rw [show (decide (f.a > 1125899906842624)) = false from h4]; rfl), trivial, trivial, h4, trivial, trivial, (by rw [show (decide (f.p < 0)) = false from h7]; rfl), trivial, (by rw [show (decide (f.p < 0)) = false from h7]; rfl), trivial, (by rw [show (decide (f.p < 0)) = false from h7]; rfl), trivial, trivial, h7, trivial, trivial, (by rw [show (decide (f.p > 1125899906842624)) = true from h10]; rfl), (by rw [show (decide (f.p > 1125899906842624)) = true from h10]; rfl), (by rw [show (decide (f.p > 1125899906842624)) = true from h10]; rfl), trivial, h10, trivial, trivial, (by rw [show true = true from rfl]; rfl), (by rw [show true = true from rfl]; rfl), (by rw [show true = true from rfl]; rfl), trivial, rfl, trivial, trivial, (by rw [show true = true from rfl]; rfl), (by rw [show true = true from rfl]; rfl), (by rw [show true = true from rfl]; rfl), trivial, rfl, trivial, trivial, (by rw [show true = true from rfl]; rfl), (by rw [show true = true from rfl]; rfl), (by rw [show true = true from rfl]; rfl), trivial, rfl, trivial, trivial, (by rw [show true = true from rfl]; rfl), (by rw [show true = true from rfl]; rfl), (by rw [show true = true from rfl]; rfl), (by rw [show true = true from rfl]; rfl), trivial, trivial, trivial, (by rw [show true = true from rfl]; rfl), trivial, rfl, trivial, trivial, (by rw [show true = true from rfl]; rfl), (by rw [show true = true from rfl]; rfl), (by rw [show true = true from rfl]; rfl), (by rw [show true = true from rfl]; rfl), trivial, rfl, trivial⟩ ?_
          refine T_cond true (by kernel_rfl) (fun _ => ?_) (fun h => absurd (h.symm.trans rfl) (by decide))
          refine T_reg [] [2] [1] (mk 105 [(2, (dt (I 380)))] []) (True ∧ True ∧ True) (by kernel_rfl) ⟨trivial, trivial, trivial⟩ ?_
          refine T_ret ?_
          exact ret_here [(dt (I 380))] (by kernel_rfl) (.inl (congrArg I (by first | exact chk_bad (by unfold headOK; simp only [decide_eq_true_eq, decide_eq_false_iff_not] at *; omega) | exact chk_bad2 (trOK_stop iv (by assumption) (by first | (simp only [decide_eq_true_eq, decide_eq_false_iff_not] at *; omega) | omega | (simp only [decide_eq_true_eq, decide_eq_false_iff_not] at *; by_cases hk : k = 0 <;> first | omega | (have := ip hk; omega)))) | exact chk_ok (by unfold headOK; simp only [decide_eq_true_eq, decide_eq_false_iff_not] at *; omega) (trOK_end iv (by omega)) : 380 = (chk f))))
        · skip
          have g12 : ¬ (f.p > 1125899906842624) := of_decide_eq_false (h10)
          rcases Bool.eq_false_or_eq_true (decide (f.m < (-1))) with h13 | h13
          · skip
            have g14 : f.m < (-1) := of_decide_eq_true (h13)
            refine T_reg [{}, {}, {}, {}, {}, {}, {}, { d := some (B false) }, {}, {}, {}, {}, { d := some (B false) }, {}, {}, {}, {}, { d := some (B false) }, {}, {}, {}, {}, { d := some (B false) }, {}, { g := false }, { g := false }, { g := false }, { d := some (B true) }, {}, { g := false }, { g := false }, { g := false }, { d := some (B true) }, {}, { g := false }, { g := false }, { g := false }, { d := some (B true) }, {}, { g := false }, { g := false }, { g := false }, { g := false }, {}, {}, {}, { g := false }, { d := some (B true) }, {}, { g := false }, { g := false }, { g := false }, { g := false }, { d := some (B true) }] [1, 58] [] (mk 105 [(1, (.one (.ref 1 0))), (58, (dt (B true)))] [(1, (.var [(.dat (I f.a)), (.dat (I f.p)), (.dat (I f.m)), (.dat (I f.s)), (.dat (.sl 2 (f.t.map encTrain)))]))]) (True ∧ True ∧ True ∧ True ∧ True ∧ True ∧ True ∧ True ∧ (((decide (f.a < 0)) == false) = true) ∧ True ∧ (((decide (f.a < 0)) == false) = true) ∧ True ∧ (((decide (f.a < 0)) == false) = true) ∧ True ∧ True ∧ ((decide (f.a < 0)) = false) ∧ True ∧ True ∧ (((decide (f.a > 1125899906842624)) == false) = true) ∧ True ∧ (((decide (f.a > 1125899906842624)) == false) = true) ∧ True ∧ (((decide (f.a > 1125899906842624)) == false) = true) ∧ True ∧ True ∧ ((decide (f.a > 1125899906842624)) = false) ∧ True ∧ True ∧ (((decide (f.p < 0)) == false) = true) ∧ True ∧ (((decide (f.p < 0)) == false) = true) ∧ True ∧ (((decide (f.p < 0)) == false) = true) ∧ True ∧ True ∧ ((decide (f.p < 0)) = false) ∧ True ∧ True ∧ (((decide (f.p > 1125899906842624)) == false) = true) ∧ True ∧ (((decide (f.p > 1125899906842624)) == false) = true) ∧ True ∧ (((decide (f.p > 1125899906842624)) == false) = true) ∧ True ∧ True ∧ ((decide (f.p > 1125899906842624)) = false) ∧ True ∧ True ∧ (((decide (f.m < (-1))) == false) = false) ∧ (((decide (f.m < (-1))) == false) = false) ∧ (((decide (f.m < (-1))) == false) = false) ∧ True ∧ ((decide (f.m < (-1))) = true) ∧ True ∧ True ∧ ((true == false) = false) ∧ ((true == false) = false) ∧ ((true == false) = false) ∧ True ∧ (true = true) ∧ True ∧ True ∧ ((true == false) = false) ∧ ((true == false) = false) ∧ ((true == false) = false) ∧ True ∧ (true = true) ∧ True ∧ True ∧ ((true == false) = false) ∧ ((true == false) = false) ∧ ((true == false) = false) ∧ ((true == false) = false) ∧ True ∧ True ∧ True ∧ ((true == false) = false) ∧ True ∧ (true = true) ∧ True ∧ True ∧ ((true == false) = false) ∧ ((true == false) = false) ∧ ((true == false) = false) ∧ ((true == false) = false) ∧ True ∧ (true = true) ∧ True) (by kernel_rfl) ⟨trivial, trivial, trivial, trivial, trivial, trivial, trivial, trivial, (by rw [show (decide (f.a < 0)) = false from h1]; rfl), trivial, (by rw [show (decide (f.a < 0)) = false from h1]; rfl), trivial, (by rw [show (decide (f.a < 0)) = false from h1]; rfl), trivial, trivial, h1, trivial, trivial, (by rw [show (decide (f.a > 1125899906842624)) = false from h4]; rfl), trivial, (by rw [show (decide (f.a > 1125899906842624)) = false from h4]; rfl), trivial, (by rw [show (decide (f.a > 1125899906842624)) = false from h4]; rfl), trivial, trivial, h4, trivial, trivial, (by rw [show (decide (f.p < 0)) = false from h7]; rfl), trivial, (by rw [show (decide (f.p < 0)) = false from h7]; rfl), trivial, (by rw [show (decide (f.p < 0)) = false from h7]; rfl), trivial, trivial, h7, trivial, trivial, (by rw [show (decide (f.p > 1125899906842624)) = false from h10]; rfl), trivial, (by rw [show (decide (f.p > 1125899906842624)) = false from h10]; rfl), trivial, (by rw [show (decide (f.p > 1125899906842624)) = false from h10]; rfl), trivial, trivial, h10, trivial, trivial, (by rw [show (decide (f.m < (-1))) = true from h13]; rfl), (by rw [show (decide (f.m < (-1))) = true from h13]; rfl), (by rw [show (decide (f.m < (-1))) = true from h13]; rfl), trivial, h13, trivial, trivial, (by rw [show true = true from rfl]; rfl), (by rw [show true = true from rfl]; rfl), (by rw [show true = true from rfl]; rfl), trivial, rfl, trivial, trivial, (by rw [show true = true from rfl]; rfl), (by rw [show true = true from rfl]; rfl), (by rw [show true = true from rfl]; rfl), trivial, rfl, trivial, trivial, (by rw [show true = true from rfl]; rfl), (by rw [show true = true from rfl]; rfl), (by rw [show true = true from rfl]; rfl), (by rw [show true = true from rfl]; rfl), trivial, trivial, trivial, (by rw [show true = true from rfl]; rfl), trivial, rfl, trivial, trivial, (by rw [show true = true from rfl]; rfl), (by rw [show true = true from rfl]; rfl), (by rw [show true = true from rfl]; rfl), (by rw [show true = true from rfl]; rfl), trivial, rfl, trivial⟩ ?_
            refine T_cond true (by kernel_rfl) (fun _ => ?_) (fun h => absurd (h.symm.trans rfl) (by decide))
            refine T_reg [] [2] [1] (mk 105 [(2, (dt (I 380)))] []) (True ∧ True ∧ True) (by kernel_rfl) ⟨trivial, trivial, trivial⟩ ?_
            refine T_ret ?_
            exact ret_here [(dt (I 380))] (by kernel_rfl) (.inl (congrArg I (by first | exact chk_bad (by unfold headOK; simp only [decide_eq_true_eq, decide_eq_false_iff_not] at *; omega) | exact chk_bad2 (trOK_stop iv (by assumption) (by first | (simp only [decide_eq_true_eq, decide_eq_false_iff_not] at *; omega) | omega | (simp only [decide_eq_true_eq, decide_eq_false_iff_not] at *; by_cases hk : k = 0 <;> first | omega | (have := ip hk; omega)))) | exact chk_ok (by unfold headOK; simp only [decide_eq_true_eq, decide_eq_false_iff_not] at *; omega) (trOK_end iv (by omega)) : 380 = (chk f))))
          · skip
            have g15 : ¬ (f.m < (-1)) := of_decide_eq_false (h13)
            rcases Bool.eq_false_or_eq_true (decide (f.m ≥ 192)) with h16 | h16
            · skip
              have g17 : f.m ≥ 192 := of_decide_eq_true (h16)
              refine T_reg [{}, {}, {}, {}, {}, {}, {}, { d := some (B false) }, {}, {}, {}, {}, { d := some (B false) }, {}, {}, {}, {}, { d := some (B false) }, {}, {}, {}, {}, { d := some (B false) }, {}, {}, {}, {}, { d := some (B false) }, {}, { g := false }, { g := false }, { g := false }, { d := some (B true) }, {}, { g := false }, { g := false }, { g := false }, { d := some (B true) }, {}, { g := false }, { g := false }, { g := false }, { g := false }, {}, {}, {}, { g := false }, { d := some (B true) }, {}, { g := false }, { g := false }, { g := false }, { g := false }, { d := some (B true) }] [1, 58] [] (mk 105 [(1, (.one (.ref 1 0))), (58, (dt (B true)))] [(1, (.var [(.dat (I f.a)), (.dat (I f.p)), (.dat (I f.m)), (.dat (I f.s)), (.dat (.sl 2 (f.t.map encTrain)))]))]) (True ∧ True ∧ True ∧ True ∧ True ∧ True ∧ True ∧ True ∧ (((decide (f.a < 0)) == false) = true) ∧ True ∧ (((decide (f.a < 0)) == false) = true) ∧ True ∧ (((decide (f.a < 0)) == false) = true) ∧ True ∧ True ∧ ((decide (f.a < 0)) = false) ∧ True ∧ True ∧ (((decide (f.a > 1125899906842624)) == false) = true) ∧ True ∧ (((decide (f.a > 1125899906842624)) == false) = true) ∧ True ∧ (((decide (f.a > 1125899906842624)) == false) = true) ∧ True ∧ True ∧ ((decide (f.a > 1125899906842624)) = false) ∧ True ∧ True ∧ (((decide (f.p < 0)) == false) = true) ∧ True ∧ (((decide (f.p < 0)) == false) = true) ∧ True ∧ (((decide (f.p < 0)) == false) = true) ∧ True ∧ True ∧ ((decide (f.p < 0)) = false) ∧ True ∧ True ∧ (((decide (f.p > 1125899906842624)) == false) = true) ∧ True ∧ (((decide (f.p > 1125899906842624)) == false) = true) ∧ True ∧ (((decide (f.p > 1125899906842624)) == false) = true) ∧ True ∧ True ∧ ((decide (f.p > 1125899906842624)) = false) ∧ True ∧ True ∧ (((decide (f.m < (-1))) == false) = true) ∧ True ∧ (((decide (f.m < (-1))) == false) = true) ∧ True ∧ (((decide (f.m < (-1))) == false) = true) ∧ True ∧ True ∧ ((decide (f.m < (-1))) = false) ∧ True ∧ True ∧ (((decide (f.m ≥ 192)) == false) = false) ∧ (((decide (f.m ≥ 192)) == false) = false) ∧ (((decide (f.m ≥ 192)) == false) = false) ∧ True ∧ ((decide (f.m ≥ 192)) = true) ∧ True ∧ True ∧ ((true == false) = false) ∧ ((true == false) = false) ∧ ((true == false) = false) ∧ True ∧ (true = true) ∧ True ∧ True ∧ ((true == false) = false) ∧ ((true == false) = false) ∧ ((true == false) = false) ∧ ((true == false) = false) ∧ True ∧ True ∧ True ∧ ((true == false) = false) ∧ True ∧ (true = true) ∧ True ∧ True ∧ ((true == false) = false) ∧ ((true == false) = false) ∧ ((true == false) = false) ∧ ((true == false) = false) ∧ True ∧ (true = true) ∧ True) (by kernel_rfl) ⟨trivial, trivial, trivial, trivial, trivial, trivial, trivial, trivial, (by rw [show (decide (f.a < 0)) = false from h1]; rfl), trivial, (by rw [show (decide (f.a < 0)) = false from h1]; rfl), trivial, (by rw [show (decide (f.a < 0)) = false from h1]; rfl), trivial, trivial, h1, trivial, trivial, (by rw [show (decide (f.a > 1125899906842624)) = false from h4]; rfl), trivial, (by rw [show (decide (f.a > 1125899906842624)) = false from h4]; rfl), trivial, (by rw [show (decide (f.a > 1125899906842624)) = false from h4]; rfl), trivial, trivial, h4, trivial, trivial, (by rw [show (decide (f.p < 0)) = false from h7]; rfl), trivial, (by rw [show (decide (f.p < 0)) = false from h7]; rfl), trivial, (by rw [show (decide (f.p < 0)) = false from h7]; rfl), trivial, trivial, h7, trivial, trivial, (by rw [show (decide (f.p > 1125899906842624)) = false from h10]; rfl), trivial, (by rw [show (decide (f.p > 1125899906842624)) = false from h10]; rfl), trivial, (by rw [show (decide (f.p > 1125899906842624)) = false from h10]; rfl), trivial, trivial, h10, trivial, trivial, (by rw [show (decide (f.m < (-1))) = false from h13]; rfl), trivial, (by rw [show (decide (f.m < (-1))) = false from h13]; rfl), trivial, (by rw [show (decide (f.m < (-1))) = false from h13]; rfl), trivial, trivial, h13, trivial, trivial, (by rw [show (decide (f.m ≥ 192)) = true from h16]; rfl), (by rw [show (decide (f.m ≥ 192)) = true from h16]; rfl), (by rw [show (decide (f.m ≥ 192)) = true from h16]; rfl), trivial, h16, trivial, trivial, (by rw [show true = true from rfl]; rfl), (by rw [show true = true from rfl]; rfl), (by rw [show true = true from rfl]; rfl), trivial, rfl, trivial, trivial, (by rw [show true = true from rfl]; rfl), (by rw [show true = true from rfl]; rfl), (by rw [show true = true from rfl]; rfl), (by rw [show true = true from rfl]; rfl), trivial, trivial, trivial, (by rw [show true = true from rfl]; rfl), trivial, rfl, trivial, trivial, (by rw [show true = true from rfl]; rfl), (by rw [show true = true from rfl]; rfl), (by rw [show true = true from rfl]; rfl), (by rw [show true = true from rfl]; rfl), trivial, rfl, trivial⟩ ?_
              refine T_cond true (by kernel_rfl) (fun _ => ?_) (fun h => absurd (h.symm.trans rfl) (by decide))
              refine T_reg [] [2] [1] (mk 105 [(2, (dt (I 380)))] []) (True ∧ True ∧ True) (by kernel_rfl) ⟨trivial, trivial, trivial⟩ ?_
              refine T_ret ?_
              exact ret_here [(dt (I 380))] (by kernel_rfl) (.inl (congrArg I (by first | exact chk_bad (by unfold headOK; simp only [decide_eq_true_eq, decide_eq_false_iff_not] at *; omega) | exact chk_bad2 (trOK_stop iv (by assumption) (by first | (simp only [decide_eq_true_eq, decide_eq_false_iff_not] at *; omega) | omega | (simp only [decide_eq_true_eq, decide_eq_false_iff_not] at *; by_cases hk : k = 0 <;> first | omega | (have := ip hk; omega)))) | exact chk_ok (by unfold headOK; simp only [decide_eq_true_eq, decide_eq_false_iff_not] at *; omega) (trOK_end iv (by omega)) : 380 = (chk f))))
            · skip
              have g18 : ¬ (f.m ≥ 192) := of_decide_eq_false (h16)
              rcases Bool.eq_false_or_eq_true (decide (f.s < 0)) with h19 | h19
              · skip
                have g20 : f.s < 0 := of_decide_eq_true (h19)
                refine T_reg [{}, {}, {}, {}, {}, {}, {}, { d := some (B false) }, {}, {}, {}, {}, { d := some (B false) }, {}, {}, {}, {}, { d := some (B false) }, {}, {}, {}, {}, { d := some (B false) }, {}, {}, {}, {}, { d := some (B false) }, {}, {}, {}, {}, { d := some (B false) }, {}, { g := false }, { g := false }, { g := false }, { d := some (B true) }, {}, { g := false }, { g := false }, { g := false }, { g := false }, {}, {}, {}, { g := false }, { d := some (B true) }, {}, { g := false }, { g := false }, { g := false }, { g := false }, { d := some (B true) }] [1, 58] [] (mk 105 [(1, (.one (.ref 1 0))), (58, (dt (B true)))] [(1, (.var [(.dat (I f.a)), (.dat (I f.p)), (.dat (I f.m)), (.dat (I f.s)), (.dat (.sl 2 (f.t.map encTrain)))]))]) (True ∧ True ∧ True ∧ True ∧ True ∧ True ∧ True ∧ True ∧ (((decide (f.a < 0)) == false) = true) ∧ True ∧ (((decide (f.a < 0)) == false) = true) ∧ True ∧ (((decide (f.a < 0)) == false) = true) ∧ True ∧ True ∧ ((decide (f.a < 0)) = false) ∧ True ∧ True ∧ (((decide (f.a > 1125899906842624)) == false) = true) ∧ True ∧ (((decide (f.a > 1125899906842624)) == false) = true) ∧ True ∧ (((decide (f.a > 1125899906842624)) == false) = true) ∧ True ∧ True ∧ ((decide (f.a > 1125899906842624)) = false) ∧ True ∧ True ∧ (((decide (f.p < 0)) == false) = true) ∧ True ∧ (((decide (f.p < 0)) == false) = true) ∧ True ∧ (((decide (f.p < 0)) == false) = true) ∧ True ∧ True ∧ ((decide (f.p < 0)) = false) ∧ True ∧ True ∧ (((decide (f.p > 1125899906842624)) == false) = true) ∧ True ∧ (((decide (f.p > 1125899906842624)) == false) = true) ∧ True ∧ (((decide (f.p > 1125899906842624)) == false) = true) ∧ True ∧ True ∧ ((decide (f.p > 1125899906842624)) = false) ∧ True ∧ True ∧ (((decide (f.m < (-1))) == false) = true) ∧ True ∧ (((decide (f.m < (-1))) == false) = true) ∧ True ∧ (((decide (f.m < (-1))) == false) = true) ∧ True ∧ True ∧ ((decide (f.m < (-1))) = false) ∧ True ∧ True ∧ (((decide (f.m ≥ 192)) == false) = true) ∧ True ∧ (((decide (f.m ≥ 192)) == false) = true) ∧ True ∧ (((decide (f.m ≥ 192)) == false) = true) ∧ True ∧ True ∧ ((decide (f.m ≥ 192)) = false) ∧ True ∧ True ∧ (((decide (f.s < 0)) == false) = false) ∧ (((decide (f.s < 0)) == false) = false) ∧ (((decide (f.s < 0)) == false) = false) ∧ True ∧ ((decide (f.s < 0)) = true) ∧ True ∧ True ∧ ((true == false) = false) ∧ ((true == false) = false) ∧ ((true == false) = false) ∧ ((true == false) = false) ∧ True ∧ True ∧ True ∧ ((true == false) = false) ∧ True ∧ (true = true) ∧ True ∧ True ∧ ((true == false) = false) ∧ ((true == false) = false) ∧ ((true == false) = false) ∧ ((true == false) = false) ∧ True ∧ (true = true) ∧ True) (by kernel_rfl) ⟨trivial, trivial, trivial, trivial, trivial, trivial, trivial, trivial, (by rw [show (decide (f.a < 0)) = false from h1]; rfl), trivial, (by rw [show (decide (f.a < 0)) = false from h1]; rfl), trivial, (by rw [show (decide (f.a < 0)) = false from h1]; rfl), trivial, trivial, h1, trivial, trivial, (by rw [show (decide (f.a > 1125899906842624)) = false from h4]; rfl), trivial, (by rw [show (decide (f.a > 1125899906842624)) = false from h4]; rfl), trivial, (by rw [show (decide (f.a > 1125899906842624)) = false from h4]; rfl), trivial, trivial, h4, trivial, trivial, (by rw [show (decide (f.p < 0)) = false from h7]; rfl), trivial, (by rw [show (decide (f.p < 0)) = false from h7]; rfl), trivial, (by rw [show (decide (f.p < 0)) = false from h7]; rfl), trivial, trivial, h7, trivial, trivial, (by rw [show (decide (f.p > 1125899906842624)) = false from h10]; rfl), trivial, (by rw [show (decide (f.p > 1125899906842624)) = false from h10]; rfl), trivial, (by rw [show (decide (f.p > 1125899906842624)) = false from h10]; rfl), trivial, trivial, h10, trivial, trivial, (by rw [show (decide (f.m < (-1))) = false from h13]; rfl), trivial, (by rw [show (decide (f.m < (-1))) = false from h13]; rfl), trivial, (by rw [show (decide (f.m < (-1))) = false from h13]; rfl), trivial, trivial, h13, trivial, trivial, (by rw [show (decide (f.m ≥ 192)) = false from h16]; rfl), trivial, (by rw [show (decide (f.m ≥ 192)) = false from h16]; rfl), trivial, (by rw [show (decide (f.m ≥ 192)) = false from h16]; rfl), trivial, trivial, h16, trivial, trivial, (by rw [show (decide (f.s < 0)) = true from h19]; rfl), (by rw [show (decide (f.s < 0)) = true from h19]; rfl), (by rw [show (decide (f.s < 0)) = true from h19]; rfl), trivial, h19, trivial, trivial, (by rw [show true = true from rfl]; rfl), (by rw [show true = true from rfl]; rfl), (by rw [show true = true from rfl]; rfl), (by rw [show true = true from rfl]; rfl), trivial, trivial, trivial, (by rw [show true = true from rfl]; rfl), trivial, rfl, trivial, trivial, (by rw [show true = true from rfl]; rfl), (by rw [show true = true from rfl]; rfl), (by rw [show true = true from rfl]; rfl), (by rw [show true = true from rfl]; rfl), trivial, rfl, trivial⟩ ?_
                refine T_cond true (by kernel_rfl) (fun _ => ?_) (fun h => absurd (h.symm.trans rfl) (by decide))
                refine T_reg [] [2] [1] (mk 105 [(2, (dt (I 380)))] []) (True ∧ True ∧ True) (by kernel_rfl) ⟨trivial, trivial, trivial⟩ ?_
                refine T_ret ?_
                exact ret_here [(dt (I 380))] (by kernel_rfl) (.inl (congrArg I (by first | exact chk_bad (by unfold headOK; simp only [decide_eq_true_eq, decide_eq_false_iff_not] at *; omega) | exact chk_bad2 (trOK_stop iv (by assumption) (by first | (simp only [decide_eq_true_eq, decide_eq_false_iff_not] at *; omega) | omega | (simp only [decide_eq_true_eq, decide_eq_false_iff_not] at *; by_cases hk : k = 0 <;> first | omega | (have := ip hk; omega)))) | exact chk_ok (by unfold headOK; simp only [decide_eq_true_eq, decide_eq_false_iff_not] at *; omega) (trOK_end iv (by omega)) : 380 = (chk f))))
              · skip
                have g21 : ¬ (f.s < 0) := of_decide_eq_false (h19)
                rcases Bool.eq_false_or_eq_true (decide (f.s > 1000)) with h22 | h22
                · skip
                  have g23 : f.s > 1000 := of_decide_eq_true (h22)
                  refine T_reg [{}, {}, {}, {}, {}, {}, {}, { d := some (B false) }, {}, {}, {}, {}, { d := some (B false) }, {}, {}, {}, {}, { d := some (B false) }, {}, {}, {}, {}, { d := some (B false) }, {}, {}, {}, {}, { d := some (B false) }, {}, {}, {}, {}, { d := some (B false) }, {}, {}, {}, {}, { d := some (B false) }, {}, { g := false }, { g := false }, { g := false }, { g := false }, {}, {}, {}, { g := false }, { d := some (B true) }, {}, { g := false }, { g := false }, { g := false }, { g := false }, { d := some (B true) }] [1, 58] [] (mk 105 [(1, (.one (.ref 1 0))), (58, (dt (B true)))] [(1, (.var [(.dat (I f.a)), (.dat (I f.p)), (.dat (I f.m)), (.dat (I f.s)), (.dat (.sl 2 (f.t.map encTrain)))]))]) (True ∧ True ∧ True ∧ True ∧ True ∧ True ∧ True ∧ True ∧ (((decide (f.a < 0)) == false) = true) ∧ True ∧ (((decide (f.a < 0)) == false) = true) ∧ True ∧ (((decide (f.a < 0)) == false) = true) ∧ True ∧ True ∧ ((decide (f.a < 0)) = false) ∧ True ∧ True ∧ (((decide (f.a > 1125899906842624)) == false) = true) ∧ True ∧ (((decide (f.a > 1125899906842624)) == false) = true) ∧ True ∧ (((decide (f.a > 1125899906842624)) == false) = true) ∧ True ∧ True ∧ ((decide (f.a > 1125899906842624)) = false) ∧ True ∧ True ∧ (((decide (f.p < 0)) == false) = true) ∧ True ∧ (((decide (f.p < 0)) == false) = true) ∧ True ∧ (((decide (f.p < 0)) == false) = true) ∧ True ∧ True ∧ ((decide (f.p < 0)) = false) ∧ True ∧ True ∧ (((decide (f.p > 1125899906842624)) == false) = true) ∧ True ∧ (((decide (f.p > 1125899906842624)) == false) = true) ∧ True ∧ (((decide (f.p > 1125899906842624)) == false) = true) ∧ True ∧ True ∧ ((decide (f.p > 1125899906842624)) = false) ∧ True ∧ True ∧ (((decide (f.m < (-1))) == false) = true) ∧ True ∧ (((decide (f.m < (-1))) == false) = true) ∧ True ∧ (((decide (f.m < (-1))) == false) = true) ∧ True ∧ True ∧ ((decide (f.m < (-1))) = false) ∧ True ∧ True ∧ (((decide (f.m ≥ 192)) == false) = true) ∧ True ∧ (((decide (f.m ≥ 192)) == false) = true) ∧ True ∧ (((decide (f.m ≥ 192)) == false) = true) ∧ True ∧ True ∧ ((decide (f.m ≥ 192)) = false) ∧ True ∧ True ∧ (((decide (f.s < 0)) == false) = true) ∧ True ∧ (((decide (f.s < 0)) == false) = true) ∧ True ∧ (((decide (f.s < 0)) == false) = true) ∧ True ∧ True ∧ ((decide (f.s < 0)) = false) ∧ True ∧ True ∧ (((decide (f.s > 1000)) == false) = false) ∧ (((decide (f.s > 1000)) == false) = false) ∧ (((decide (f.s > 1000)) == false) = false) ∧ (((decide (f.s > 1000)) == false) = false) ∧ True ∧ True ∧ True ∧ (((decide (f.s > 1000)) == false) = false) ∧ True ∧ ((decide (f.s > 1000)) = true) ∧ True ∧ True ∧ ((true == false) = false) ∧ ((true == false) = false) ∧ ((true == false) = false) ∧ ((true == false) = false) ∧ True ∧ (true = true) ∧ True) (by kernel_rfl) ⟨trivial, trivial, trivial, trivial, trivial, trivial, trivial, trivial, (by rw [show (decide (f.a < 0)) = false from h1]; rfl), trivial, (by rw [show (decide (f.a < 0)) = false from h1]; rfl), trivial, (by rw [show (decide (f.a < 0)) = false from h1]; rfl), trivial, trivial, h1, trivial, trivial, (by rw [show (decide (f.a > 1125899906842624)) = false from h4]; rfl), trivial, (by rw [show (decide (f.a > 1125899906842624)) = false from h4]; rfl), trivial, (by rw [show (decide (f.a > 1125899906842624)) = false from h4]; rfl), trivial, trivial, h4, trivial, trivial, (by rw [show (decide (f.p < 0)) = false from h7]; rfl), trivial, (by rw [show (decide (f.p < 0)) = false from h7]; rfl), trivial, (by rw [show (decide (f.p < 0)) = false from h7]; rfl), trivial, trivial, h7, trivial, trivial, (by rw [show (decide (f.p > 1125899906842624)) = false from h10]; rfl), trivial, (by rw [show (decide (f.p > 1125899906842624)) = false from h10]; rfl), trivial, (by rw [show (decide (f.p > 1125899906842624)) = false from h10]; rfl), trivial, trivial, h10, trivial, trivial, (by rw [show (decide (f.m < (-1))) = false from h13]; rfl), trivial, (by rw [show (decide (f.m < (-1))) = false from h13]; rfl), trivial, (by rw [show (decide (f.m < (-1))) = false from h13]; rfl), trivial, trivial, h13, trivial, trivial, (by rw [show (decide (f.m ≥ 192)) = false from h16]; rfl), trivial, (by rw [show (decide (f.m ≥ 192)) = false from h16]; rfl), trivial, (by rw [show (decide (f.m ≥ 192)) = false from h16]; rfl), trivial, trivial, h16, trivial, trivial, (by rw [show (decide (f.s < 0)) = false from h19]; rfl), trivial, (by rw [show (decide (f.s < 0)) = false from h19]; rfl), trivial, (by rw [show (decide (f.s < 0)) = false from h19]; rfl), trivial, trivial, h19, trivial, trivial, (by rw [show (decide (f.s > 1000)) = true from h22]; rfl), (by rw [show (decide (f.s > 1000)) = true from h22]; rfl), (by rw [show (decide (f.s > 1000)) = true from h22]; rfl), (by rw [show (decide (f.s > 1000)) = true from h22]; rfl), trivial, trivial, trivial, (by rw [show (decide (f.s > 1000)) = true from h22]; rfl), trivial, h22, trivial, trivial, (by rw [show true = true from rfl]; rfl), (by rw [show true = true from rfl]; rfl), (by rw [show true = true from rfl]; rfl), (by rw [show true = true from rfl]; rfl), trivial, rfl, trivial⟩ ?_
                  refine T_cond true (by kernel_rfl) (fun _ => ?_) (fun h => absurd (h.symm.trans rfl) (by decide))
                  refine T_reg [] [2] [1] (mk 105 [(2, (dt (I 380)))] []) (True ∧ True ∧ True) (by kernel_rfl) ⟨trivial, trivial, trivial⟩ ?_
                  refine T_ret ?_
                  exact ret_here [(dt (I 380))] (by kernel_rfl) (.inl (congrArg I (by first | exact chk_bad (by unfold headOK; simp only [decide_eq_true_eq, decide_eq_false_iff_not] at *; omega) | exact chk_bad2 (trOK_stop iv (by assumption) (by first | (simp only [decide_eq_true_eq, decide_eq_false_iff_not] at *; omega) | omega | (simp only [decide_eq_true_eq, decide_eq_false_iff_not] at *; by_cases hk : k = 0 <;> first | omega | (have := ip hk; omega)))) | exact chk_ok (by unfold headOK; simp only [decide_eq_true_eq, decide_eq_false_iff_not] at *; omega) (trOK_end iv (by omega)) : 380 = (chk f))))
                · skip
                  have g24 : ¬ (f.s > 1000) := of_decide_eq_false (h22)
                  rcases Bool.eq_false_or_eq_true (f.m == (-1)) with h25 | h25
                  · skip
                    have g26 : f.m = (-1) := eq_of_beq (h25)
                    rcases Bool.eq_false_or_eq_true (f.s != 0) with h27 | h27
                    · skip
                      have g28 : f.s ≠ 0 := bne_iff_ne.1 (h27)
                      refine T_reg [{}, {}, {}, {}, {}, {}, {}, { d := some (B false) }, {}, {}, {}, {}, { d := some (B false) }, {}, {}, {}, {}, { d := some (B false) }, {}, {}, {}, {}, { d := some (B false) }, {}, {}, {}, {}, { d := some (B false) }, {}, {}, {}, {}, { d := some (B false) }, {}, {}, {}, {}, { d := some (B false) }, {}, {}, {}, {}, {}, {}, {}, {}, { d := some (B true) }, { d := some (B false) }, {}, { g := false }, { g := false }, { g := false }, { g := false }, { d := some (B true) }] [1, 58] [] (mk 105 [(1, (.one (.ref 1 0))), (58, (dt (B true)))] [(1, (.var [(.dat (I f.a)), (.dat (I f.p)), (.dat (I f.m)), (.dat (I f.s)), (.dat (.sl 2 (f.t.map encTrain)))]))]) (True ∧ True ∧ True ∧ True ∧ True ∧ True ∧ True ∧ True ∧ (((decide (f.a < 0)) == false) = true) ∧ True ∧ (((decide (f.a < 0)) == false) = true) ∧ True ∧ (((decide (f.a < 0)) == false) = true) ∧ True ∧ True ∧ ((decide (f.a < 0)) = false) ∧ True ∧ True ∧ (((decide (f.a > 1125899906842624)) == false) = true) ∧ True ∧ (((decide (f.a > 1125899906842624)) == false) = true) ∧ True ∧ (((decide (f.a > 1125899906842624)) == false) = true) ∧ True ∧ True ∧ ((decide (f.a > 1125899906842624)) = false) ∧ True ∧ True ∧ (((decide (f.p < 0)) == false) = true) ∧ True ∧ (((decide (f.p < 0)) == false) = true) ∧ True ∧ (((decide (f.p < 0)) == false) = true) ∧ True ∧ True ∧ ((decide (f.p < 0)) = false) ∧ True ∧ True ∧ (((decide (f.p > 1125899906842624)) == false) = true) ∧ True ∧ (((decide (f.p > 1125899906842624)) == false) = true) ∧ True ∧ (((decide (f.p > 1125899906842624)) == false) = true) ∧ True ∧ True ∧ ((decide (f.p > 1125899906842624)) = false) ∧ True ∧ True ∧ (((decide (f.m < (-1))) == false) = true) ∧ True ∧ (((decide (f.m < (-1))) == false) = true) ∧ True ∧ (((decide (f.m < (-1))) == false) = true) ∧ True ∧ True ∧ ((decide (f.m < (-1))) = false) ∧ True ∧ True ∧ (((decide (f.m ≥ 192)) == false) = true) ∧ True ∧ (((decide (f.m ≥ 192)) == false) = true) ∧ True ∧ (((decide (f.m ≥ 192)) == false) = true) ∧ True ∧ True ∧ ((decide (f.m ≥ 192)) = false) ∧ True ∧ True ∧ (((decide (f.s < 0)) == false) = true) ∧ True ∧ (((decide (f.s < 0)) == false) = true) ∧ True ∧ (((decide (f.s < 0)) == false) = true) ∧ True ∧ True ∧ ((decide (f.s < 0)) = false) ∧ True ∧ True ∧ (((decide (f.s > 1000)) == false) = true) ∧ True ∧ (((decide (f.s > 1000)) == false) = true) ∧ True ∧ (((decide (f.s > 1000)) == false) = true) ∧ True ∧ (((decide (f.s > 1000)) == false) = true) ∧ True ∧ (((f.m == (-1)) == true) = true) ∧ True ∧ (((f.m == (-1)) == true) = true) ∧ True ∧ (((f.m == (-1)) == true) = true) ∧ True ∧ (((decide (f.s > 1000)) == false) = true) ∧ ((f.m == (-1)) = true) ∧ True ∧ ((decide (f.s > 1000)) = false) ∧ True ∧ True ∧ (((f.s != 0) == false) = false) ∧ (((f.s != 0) == false) = false) ∧ (((f.s != 0) == false) = false) ∧ (((f.s != 0) == false) = false) ∧ True ∧ ((f.s != 0) = true) ∧ True) (by kernel_rfl) ⟨trivial, trivial, trivial, trivial, trivial, trivial, trivial, trivial, (by rw [show (decide (f.a < 0)) = false from h1]; rfl), trivial, (by rw [show (decide (f.a < 0)) = false from h1]; rfl), trivial, (by rw [show (decide (f.a < 0)) = false from h1]; rfl), trivial, trivial, h1, trivial, trivial, (by rw [show (decide (f.a > 1125899906842624)) = false from h4]; rfl), trivial, (by rw [show (decide (f.a > 1125899906842624)) = false from h4]; rfl), trivial, (by rw [show (decide (f.a > 1125899906842624)) = false from h4]; rfl), trivial, trivial, h4, trivial, trivial, (by rw [show (decide (f.p < 0)) = false from h7]; rfl), trivial, (by rw [show (decide (f.p < 0)) = false from h7]; rfl), trivial, (by rw [show (decide (f.p < 0)) = false from h7]; rfl), trivial, trivial, h7, trivial, trivial, (by rw [show (decide (f.p > 1125899906842624)) = false from h10]; rfl), trivial, (by rw [show (decide (f.p > 1125899906842624)) = false from h10]; rfl), trivial, (by rw [show (decide (f.p > 1125899906842624)) = false from h10]; rfl), trivial, trivial, h10, trivial, trivial, (by rw [show (decide (f.m < (-1))) = false from h13]; rfl), trivial, (by rw [show (decide (f.m < (-1))) = false from h13]; rfl), trivial, (by rw [show (decide (f.m < (-1))) = false from h13]; rfl), trivial, trivial, h13, trivial, trivial, (by rw [show (decide (f.m ≥ 192)) = false from h16]; rfl), trivial, (by rw [show (decide (f.m ≥ 192)) = false from h16]; rfl), trivial, (by rw [show (decide (f.m ≥ 192)) = false from h16]; rfl), trivial, trivial, h16, trivial, trivial, (by rw [show (decide (f.s < 0)) = false from h19]; rfl), trivial, (by rw [show (decide (f.s < 0)) = false from h19]; rfl), trivial, (by rw [show (decide (f.s < 0)) = false from h19]; rfl), trivial, trivial, h19, trivial, trivial, (by rw [show (decide (f.s > 1000)) = false from h22]; rfl), trivial, (by rw [show (decide (f.s > 1000)) = false from h22]; rfl), trivial, (by rw [show (decide (f.s > 1000)) = false from h22]; rfl), trivial, (by rw [show (decide (f.s > 1000)) = false from h22]; rfl), trivial, (by rw [show (f.m == (-1)) = true from h25]; rfl), trivial, (by rw [show (f.m == (-1)) = true from h25]; rfl), trivial, (by rw [show (f.m == (-1)) = true from h25]; rfl), trivial, (by rw [show (decide (f.s > 1000)) = false from h22]; rfl), h25, trivial, h22, trivial, trivial, (by rw [show (f.s != 0) = true from h27]; rfl), (by rw [show (f.s != 0) = true from h27]; rfl), (by rw [show (f.s != 0) = true from h27]; rfl), (by rw [show (f.s != 0) = true from h27]; rfl), trivial, h27, trivial⟩ ?_
                      refine T_cond true (by kernel_rfl) (fun _ => ?_) (fun h => absurd (h.symm.trans rfl) (by decide))
                      refine T_reg [] [2] [1] (mk 105 [(2, (dt (I 380)))] []) (True ∧ True ∧ True) (by kernel_rfl) ⟨trivial, trivial, trivial⟩ ?_
                      refine T_ret ?_
                      exact ret_here [(dt (I 380))] (by kernel_rfl) (.inl (congrArg I (by first | exact chk_bad (by unfold headOK; simp only [decide_eq_true_eq, decide_eq_false_iff_not] at *; omega) | exact chk_bad2 (trOK_stop iv (by assumption) (by first | (simp only [decide_eq_true_eq, decide_eq_false_iff_not] at *; omega) | omega | (simp only [decide_eq_true_eq, decide_eq_false_iff_not] at *; by_cases hk : k = 0 <;> first | omega | (have := ip hk; omega)))) | exact chk_ok (by unfold headOK; simp only [decide_eq_true_eq, decide_eq_false_iff_not] at *; omega) (trOK_end iv (by omega)) : 380 = (chk f))))
                    · skip
                      have g29 : f.s = 0 := bne_f (h27)
                      refine T_reg [{}, {}, {}, {}, {}, {}, {}, { d := some (B false) }, {}, {}, {}, {}, { d := some (B false) }, {}, {}, {}, {}, { d := some (B false) }, {}, {}, {}, {}, { d := some (B false) }, {}, {}, {}, {}, { d := some (B false) }, {}, {}, {}, {}, { d := some (B false) }, {}, {}, {}, {}, { d := some (B false) }, {}, {}, {}, {}, {}, {}, {}, {}, { d := some (B true) }, { d := some (B false) }, {}, {}, {}, { d := some (I ((f.t.length : Nat) : Int)) }, {}, { d := some (B false) }] [1, 58] [] (mk 105 [(1, (.one (.ref 1 0))), (58, (dt (B (decide (((f.t.length : Nat) : Int) > 40)))))] [(1, (.var [(.dat (I f.a)), (.dat (I f.p)), (.dat (I f.m)), (.dat (I f.s)), (.dat (.sl 2 (f.t.map encTrain)))]))]) (True ∧ True ∧ True ∧ True ∧ True ∧ True ∧ True ∧ True ∧ (((decide (f.a < 0)) == false) = true) ∧ True ∧ (((decide (f.a < 0)) == false) = true) ∧ True ∧ (((decide (f.a < 0)) == false) = true) ∧ True ∧ True ∧ ((decide (f.a < 0)) = false) ∧ True ∧ True ∧ (((decide (f.a > 1125899906842624)) == false) = true) ∧ True ∧ (((decide (f.a > 1125899906842624)) == false) = true) ∧ True ∧ (((decide (f.a > 1125899906842624)) == false) = true) ∧ True ∧ True ∧ ((decide (f.a > 1125899906842624)) = false) ∧ True ∧ True ∧ (((decide (f.p < 0)) == false) = true) ∧ True ∧ (((decide (f.p < 0)) == false) = true) ∧ True ∧ (((decide (f.p < 0)) == false) = true) ∧ True ∧ True ∧ ((decide (f.p < 0)) = false) ∧ True ∧ True ∧ (((decide (f.p > 1125899906842624)) == false) = true) ∧ True ∧ (((decide (f.p > 1125899906842624)) == false) = true) ∧ True ∧ (((decide (f.p > 1125899906842624)) == false) = true) ∧ True ∧ True ∧ ((decide (f.p > 1125899906842624)) = false) ∧ True ∧ True ∧ (((decide (f.m < (-1))) == false) = true) ∧ True ∧ (((decide (f.m < (-1))) == false) = true) ∧ True ∧ (((decide (f.m < (-1))) == false) = true) ∧ True ∧ True ∧ ((decide (f.m < (-1))) = false) ∧ True ∧ True ∧ (((decide (f.m ≥ 192)) == false) = true) ∧ True ∧ (((decide (f.m ≥ 192)) == false) = true) ∧ True ∧ (((decide (f.m ≥ 192)) == false) = true) ∧ True ∧ True ∧ ((decide (f.m ≥ 192)) = false) ∧ True ∧ True ∧ (((decide (f.s < 0)) == false) = true) ∧ True ∧ (((decide (f.s < 0)) == false) = true) ∧ True ∧ (((decide (f.s < 0)) == false) = true) ∧ True ∧ True ∧ ((decide (f.s < 0)) = false) ∧ True ∧ True ∧ (((decide (f.s > 1000)) == false) = true) ∧ True ∧ (((decide (f.s > 1000)) == false) = true) ∧ True ∧ (((decide (f.s > 1000)) == false) = true) ∧ True ∧ (((decide (f.s > 1000)) == false) = true) ∧ True ∧ (((f.m == (-1)) == true) = true) ∧ True ∧ (((f.m == (-1)) == true) = true) ∧ True ∧ (((f.m == (-1)) == true) = true) ∧ True ∧ (((decide (f.s > 1000)) == false) = true) ∧ ((f.m == (-1)) = true) ∧ True ∧ ((decide (f.s > 1000)) = false) ∧ True ∧ True ∧ (((f.s != 0) == false) = true) ∧ True ∧ (((f.s != 0) == false) = true) ∧ True ∧ (((f.s != 0) == false) = true) ∧ (True ∧ D.int .i64 ((f.t.map encTrain).length : Int) = (I ((f.t.length : Nat) : Int))) ∧ (((f.s != 0) == false) = true) ∧ True ∧ True ∧ ((f.s != 0) = false) ∧ True) (by kernel_rfl) ⟨trivial, trivial, trivial, trivial, trivial, trivial, trivial, trivial, (by rw [show (decide (f.a < 0)) = false from h1]; rfl), trivial, (by rw [show (decide (f.a < 0)) = false from h1]; rfl), trivial, (by rw [show (decide (f.a < 0)) = false from h1]; rfl), trivial, trivial, h1, trivial, trivial, (by rw [show (decide (f.a > 1125899906842624)) = false from h4]; rfl), trivial, (by rw [show (decide (f.a > 1125899906842624)) = false from h4]; rfl), trivial, (by rw [show (decide (f.a > 1125899906842624)) = false from h4]; rfl), trivial, trivial, h4, trivial, trivial, (by rw [show (decide (f.p < 0)) = false from h7]; rfl), trivial, (by rw [show (decide (f.p < 0)) = false from h7]; rfl), trivial, (by rw [show (decide (f.p < 0)) = false from h7]; rfl), trivial, trivial, h7, trivial, trivial, (by rw [show (decide (f.p > 1125899906842624)) = false from h10]; rfl), trivial, (by rw [show (decide (f.p > 1125899906842624)) = false from h10]; rfl), trivial, (by rw [show (decide (f.p > 1125899906842624)) = false from h10]; rfl), trivial, trivial, h10, trivial, trivial, (by rw [show (decide (f.m < (-1))) = false from h13]; rfl), trivial, (by rw [show (decide (f.m < (-1))) = false from h13]; rfl), trivial, (by rw [show (decide (f.m < (-1))) = false from h13]; rfl), trivial, trivial, h13, trivial, trivial, (by rw [show (decide (f.m ≥ 192)) = false from h16]; rfl), trivial, (by rw [show (decide (f.m ≥ 192)) = false from h16]; rfl), trivial, (by rw [show (decide (f.m ≥ 192)) = false from h16]; rfl), trivial, trivial, h16, trivial, trivial, (by rw [show (decide (f.s < 0)) = false from h19]; rfl), trivial, (by rw [show (decide (f.s < 0)) = false from h19]; rfl), trivial, (by rw [show (decide (f.s < 0)) = false from h19]; rfl), trivial, trivial, h19, trivial, trivial, (by rw [show (decide (f.s > 1000)) = false from h22]; rfl), trivial, (by rw [show (decide (f.s > 1000)) = false from h22]; rfl), trivial, (by rw [show (decide (f.s > 1000)) = false from h22]; rfl), trivial, (by rw [show (decide (f.s > 1000)) = false from h22]; rfl), trivial, (by rw [show (f.m == (-1)) = true from h25]; rfl), trivial, (by rw [show (f.m == (-1)) = true from h25]; rfl), trivial, (by rw [show (f.m == (-1)) = true from h25]; rfl), trivial, (by rw [show (decide (f.s > 1000)) = false from h22]; rfl), h25, trivial, h22, trivial, trivial, (by rw [show (f.s != 0) = false from h27]; rfl), trivial, (by rw [show (f.s != 0) = false from h27]; rfl), trivial, (by rw [show (f.s != 0) = false from h27]; rfl), ⟨trivial, by rw [List.length_map]⟩, (by rw [show (f.s != 0) = false from h27]; rfl), trivial, trivial, h27, trivial⟩ ?_
                      refine T_cond (decide (((f.t.length : Nat) : Int) > 40)) (by kernel_rfl) (fun h30 => ?_) (fun h30 => ?_)
                      · skip
                        have g31 : ((f.t.length : Nat) : Int) > 40 := of_decide_eq_true (h30)
                        refine T_reg [] [2] [1] (mk 105 [(2, (dt (I 380)))] []) (True ∧ True ∧ True) (by kernel_rfl) ⟨trivial, trivial, trivial⟩ ?_
                        refine T_ret ?_
                        exact ret_here [(dt (I 380))] (by kernel_rfl) (.inl (congrArg I (by first | exact chk_bad (by unfold headOK; simp only [decide_eq_true_eq, decide_eq_false_iff_not] at *; omega) | exact chk_bad2 (trOK_stop iv (by assumption) (by first | (simp only [decide_eq_true_eq, decide_eq_false_iff_not] at *; omega) | omega | (simp only [decide_eq_true_eq, decide_eq_false_iff_not] at *; by_cases hk : k = 0 <;> first | omega | (have := ip hk; omega)))) | exact chk_ok (by unfold headOK; simp only [decide_eq_true_eq, decide_eq_false_iff_not] at *; omega) (trOK_end iv (by omega)) : 380 = (chk f))))
                      · skip
                        have g32 : ¬ (((f.t.length : Nat) : Int) > 40) := of_decide_eq_false (h30)
                        refine T_skip ?_
                        refine T_seq ?_
                        refine T_reg [] [1, 3] [] (mk 105 [(1, (.one (.ref 1 0))), (3, (dt (I 0)))] [(1, (.var [(.dat (I f.a)), (.dat (I f.p)), (.dat (I f.m)), (.dat (I f.s)), (.dat (.sl 2 (f.t.map encTrain)))]))]) (True ∧ True ∧ True) (by kernel_rfl) ⟨trivial, trivial, trivial⟩ ?_
                        refine T_block ?_
                        refine T_turn [] [1, 3] [] ((fun ((k, e) : Nat × Train) => (mk 105 [(1, (.one (.ref 1 0))), (3, (dt (I ((k : Nat) : Int))))] [(1, (.var [(.dat (I f.a)), (.dat (I f.p)), (.dat (I f.m)), (.dat (I f.s)), (.dat (.sl 2 (f.t.map encTrain)))]))])) (0, ⟨-1, 0⟩)) (by kernel_rfl) (T_loop (α := Nat × Train) (fun ((k, e) : Nat × Train) => (mk 105 [(1, (.one (.ref 1 0))), (3, (dt (I ((k : Nat) : Int))))] [(1, (.var [(.dat (I f.a)), (.dat (I f.p)), (.dat (I f.m)), (.dat (I f.s)), (.dat (.sl 2 (f.t.map encTrain)))]))])) (fun ((k, e) : Nat × Train) => (k ≤ (f.t).length) ∧ (trOK e.c (f.t.drop k) = trOK (-1) f.t) ∧ (k = 0 → e.c = -1) ∧ (0 < k → f.t[k - 1]? = some e) ∧ True) (fun ((k, e) : Nat × Train) => (f.t).length - k) (0, ⟨-1, 0⟩) ⟨Nat.zero_le _, rfl, fun _ => rfl, fun h => absurd h (Nat.lt_irrefl _), trivial⟩ ?_)
                        rintro ⟨k, e⟩ ⟨ik, iv, ip, ip2, _⟩
                        refine T_seq ?_
                        refine T_reg [{}, {}, {}, { d := some (I ((f.t.length : Nat) : Int)) }] [1, 3, 63] [] (mk 105 [(1, (.one (.ref 1 0))), (3, (dt (I ((k : Nat) : Int)))), (63, (dt (B (decide (((k : Nat) : Int) < ((f.t.length : Nat) : Int))))))] [(1, (.var [(.dat (I f.a)), (.dat (I f.p)), (.dat (I f.m)), (.dat (I f.s)), (.dat (.sl 2 (f.t.map encTrain)))]))]) (True ∧ True ∧ True ∧ True ∧ True ∧ True ∧ True ∧ (True ∧ D.int .i64 ((f.t.map encTrain).length : Int) = (I ((f.t.length : Nat) : Int))) ∧ True ∧ True ∧ True) (by kernel_rfl) ⟨trivial, trivial, trivial, trivial, trivial, trivial, trivial, ⟨trivial, by rw [List.length_map]⟩, trivial, trivial, trivial⟩ ?_
                        refine T_cond (decide (((k : Nat) : Int) < ((f.t.length : Nat) : Int))) (by kernel_rfl) (fun h33 => ?_) (fun h33 => ?_)
                        · skip
                          have g34 : ((k : Nat) : Int) < ((f.t.length : Nat) : Int) := of_decide_eq_true (h33)
                          refine T_skip ?_
                          refine T_seq ?_
                          refine T_block ?_
                          have lt35 : k < (f.t).length := by first | omega | (simp only [List.length_set, List.length_map, List.length_append, List.length_cons, List.length_nil] at *; omega)
                          obtain ⟨x36, hx37⟩ : ∃ x, (f.t)[k]? = some x := ⟨_, List.getElem?_eq_getElem lt35⟩
                          refine T_reg [{}, {}, {}, { d := some (.agg [(I x36.c), (I x36.s)]) }] [1, 3, 4] [] (mk 105 [(1, (.one (.ref 1 0))), (3, (dt (I ((k : Nat) : Int)))), (4, (.one (.ref 4 0)))] [(4, (.var [(.dat (I x36.c)), (.dat (I x36.s))])), (1, (.var [(.dat (I f.a)), (.dat (I f.p)), (.dat (I f.m)), (.dat (I f.s)), (.dat (.sl 2 (f.t.map encTrain)))]))]) (True ∧ True ∧ True ∧ True ∧ True ∧ True ∧ True ∧ (0 ≤ ((k : Nat) : Int) ∧ (f.t.map encTrain)[k]? = some (.agg [(I x36.c), (I x36.s)])) ∧ True ∧ True ∧ True ∧ True ∧ True ∧ True ∧ True) (by kernel_rfl) ⟨trivial, trivial, trivial, trivial, trivial, trivial, trivial, ⟨by omega, by rw [List.getElem?_map, hx37]; rfl⟩, trivial, trivial, trivial, trivial, trivial, trivial, trivial⟩ ?_
                          rcases Bool.eq_false_or_eq_true (decide (x36.c < 0)) with h38 | h38
                          · skip
                            have g39 : x36.c < 0 := of_decide_eq_true (h38)
                            refine T_regD 34 [{}, {}, {}, {}, { g := false }, { g := false }, { g := false }, { d := some (B true) }, {}, { g := false }, { g := false }, { g := false }, { d := some (B true) }, {}, { g := false }, { g := false }, { g := false }, { d := some (B true) }, {}, { g := false }, { g := false }, { g := false }, {}, {}, {}, {}, {}, {}, {}, {}, {}, {}, { g := false }, { d := some (B true) }] [1, 3, 104] [4] (mk 105 [(1, (.one (.ref 1 0))), (3, (dt (I ((k : Nat) : Int)))), (104, (dt (B true)))] [(1, (.var [(.dat (I f.a)), (.dat (I f.p)), (.dat (I f.m)), (.dat (I f.s)), (.dat (.sl 2 (f.t.map encTrain)))]))]) ((True ∧ True ∧ True ∧ True ∧ True ∧ True ∧ True ∧ True ∧ (((decide (x36.c < 0)) == false) = false) ∧ (((decide (x36.c < 0)) == false) = false) ∧ (((decide (x36.c < 0)) == false) = false) ∧ True ∧ ((decide (x36.c < 0)) = true) ∧ True ∧ True ∧ ((true == false) = false) ∧ ((true == false) = false) ∧ ((true == false) = false) ∧ True ∧ (true = true) ∧ True ∧ True ∧ ((true == false) = false) ∧ ((true == false) = false) ∧ ((true == false) = false) ∧ True ∧ (true = true) ∧ True ∧ True ∧ ((true == false) = false) ∧ ((true == false) = false) ∧ ((true == false) = false) ∧ True ∧ True ∧ True ∧ True ∧ True ∧ True ∧ True ∧ True ∧ True ∧ True ∧ ((true == false) = false) ∧ True ∧ (true = true) ∧ True) ∧ True) (by kernel_rfl) (by kernel_rfl) (by kernel_rfl) ⟨⟨trivial, trivial, trivial, trivial, trivial, trivial, trivial, trivial, (by rw [show (decide (x36.c < 0)) = true from h38]; rfl), (by rw [show (decide (x36.c < 0)) = true from h38]; rfl), (by rw [show (decide (x36.c < 0)) = true from h38]; rfl), trivial, h38, trivial, trivial, (by rw [show true = true from rfl]; rfl), (by rw [show true = true from rfl]; rfl), (by rw [show true = true from rfl]; rfl), trivial, rfl, trivial, trivial, (by rw [show true = true from rfl]; rfl), (by rw [show true = true from rfl]; rfl), (by rw [show true = true from rfl]; rfl), trivial, rfl, trivial, trivial, (by rw [show true = true from rfl]; rfl), (by rw [show true = true from rfl]; rfl), (by rw [show true = true from rfl]; rfl), trivial, trivial, trivial, trivial, trivial, trivial, trivial, trivial, trivial, trivial, (by rw [show true = true from rfl]; rfl), trivial, rfl, trivial⟩, trivial⟩ ?_
                            refine T_cond true (by kernel_rfl) (fun _ => ?_) (fun h => absurd (h.symm.trans rfl) (by decide))
                            refine T_reg [] [2] [1] (mk 105 [(2, (dt (I 380)))] []) (True ∧ True ∧ True) (by kernel_rfl) ⟨trivial, trivial, trivial⟩ ?_
                            refine T_ret ?_
                            exact ret_here [(dt (I 380))] (by kernel_rfl) (.inl (congrArg I (by first | exact chk_bad (by unfold headOK; simp only [decide_eq_true_eq, decide_eq_false_iff_not] at *; omega) | exact chk_bad2 (trOK_stop iv (by assumption) (by first | (simp only [decide_eq_true_eq, decide_eq_false_iff_not] at *; omega) | omega | (simp only [decide_eq_true_eq, decide_eq_false_iff_not] at *; by_cases hk : k = 0 <;> first | omega | (have := ip hk; omega)))) | exact chk_ok (by unfold headOK; simp only [decide_eq_true_eq, decide_eq_false_iff_not] at *; omega) (trOK_end iv (by omega)) : 380 = (chk f))))
                          · skip
                            have g40 : ¬ (x36.c < 0) := of_decide_eq_false (h38)
                            rcases Bool.eq_false_or_eq_true (decide (x36.c ≥ 192)) with h41 | h41
                            · skip
                              have g42 : x36.c ≥ 192 := of_decide_eq_true (h41)
                              refine T_regD 34 [{}, {}, {}, {}, {}, {}, {}, { d := some (B false) }, {}, { g := false }, { g := false }, { g := false }, { d := some (B true) }, {}, { g := false }, { g := false }, { g := false }, { d := some (B true) }, {}, { g := false }, { g := false }, { g := false }, {}, {}, {}, {}, {}, {}, {}, {}, {}, {}, { g := false }, { d := some (B true) }] [1, 3, 104] [4] (mk 105 [(1, (.one (.ref 1 0))), (3, (dt (I ((k : Nat) : Int)))), (104, (dt (B true)))] [(1, (.var [(.dat (I f.a)), (.dat (I f.p)), (.dat (I f.m)), (.dat (I f.s)), (.dat (.sl 2 (f.t.map encTrain)))]))]) ((True ∧ True ∧ True ∧ True ∧ True ∧ True ∧ True ∧ True ∧ (((decide (x36.c < 0)) == false) = true) ∧ True ∧ (((decide (x36.c < 0)) == false) = true) ∧ True ∧ (((decide (x36.c < 0)) == false) = true) ∧ True ∧ True ∧ ((decide (x36.c < 0)) = false) ∧ True ∧ True ∧ (((decide (x36.c ≥ 192)) == false) = false) ∧ (((decide (x36.c ≥ 192)) == false) = false) ∧ (((decide (x36.c ≥ 192)) == false) = false) ∧ True ∧ ((decide (x36.c ≥ 192)) = true) ∧ True ∧ True ∧ ((true == false) = false) ∧ ((true == false) = false) ∧ ((true == false) = false) ∧ True ∧ (true = true) ∧ True ∧ True ∧ ((true == false) = false) ∧ ((true == false) = false) ∧ ((true == false) = false) ∧ True ∧ True ∧ True ∧ True ∧ True ∧ True ∧ True ∧ True ∧ True ∧ True ∧ ((true == false) = false) ∧ True ∧ (true = true) ∧ True) ∧ True) (by kernel_rfl) (by kernel_rfl) (by kernel_rfl) ⟨⟨trivial, trivial, trivial, trivial, trivial, trivial, trivial, trivial, (by rw [show (decide (x36.c < 0)) = false from h38]; rfl), trivial, (by rw [show (decide (x36.c < 0)) = false from h38]; rfl), trivial, (by rw [show (decide (x36.c < 0)) = false from h38]; rfl), trivial, trivial, h38, trivial, trivial, (by rw [show (decide (x36.c ≥ 192)) = true from h41]; rfl), (by rw [show (decide (x36.c ≥ 192)) = true from h41]; rfl), (by rw [show (decide (x36.c ≥ 192)) = true from h41]; rfl), trivial, h41, trivial, trivial, (by rw [show true = true from rfl]; rfl), (by rw [show true = true from rfl]; rfl), (by rw [show true = true from rfl]; rfl), trivial, rfl, trivial, trivial, (by rw [show true = true from rfl]; rfl), (by rw [show true = true from rfl]; rfl), (by rw [show true = true from rfl]; rfl), trivial, trivial, trivial, trivial, trivial, trivial, trivial, trivial, trivial, trivial, (by rw [show true = true from rfl]; rfl), trivial, rfl, trivial⟩, trivial⟩ ?_
                              refine T_cond true (by kernel_rfl) (fun _ => ?_) (fun h => absurd (h.symm.trans rfl) (by decide))
                              refine T_reg [] [2] [1] (mk 105 [(2, (dt (I 380)))] []) (True ∧ True ∧ True) (by kernel_rfl) ⟨trivial, trivial, trivial⟩ ?_
                              refine T_ret ?_
                              exact ret_here [(dt (I 380))] (by kernel_rfl) (.inl (congrArg I (by first | exact chk_bad (by unfold headOK; simp only [decide_eq_true_eq, decide_eq_false_iff_not] at *; omega) | exact chk_bad2 (trOK_stop iv (by assumption) (by first | (simp only [decide_eq_true_eq, decide_eq_false_iff_not] at *; omega) | omega | (simp only [decide_eq_true_eq, decide_eq_false_iff_not] at *; by_cases hk : k = 0 <;> first | omega | (have := ip hk; omega)))) | exact chk_ok (by unfold headOK; simp only [decide_eq_true_eq, decide_eq_false_iff_not] at *; omega) (trOK_end iv (by omega)) : 380 = (chk f))))
                            · skip
                              have g43 : ¬ (x36.c ≥ 192) := of_decide_eq_false (h41)
                              rcases Bool.eq_false_or_eq_true (decide (x36.s < 1)) with h44 | h44
                              · skip
                                have g45 : x36.s < 1 := of_decide_eq_true (h44)
                                refine T_regD 34 [{}, {}, {}, {}, {}, {}, {}, { d := some (B false) }, {}, {}, {}, {}, { d := some (B false) }, {}, { g := false }, { g := false }, { g := false }, { d := some (B true) }, {}, { g := false }, { g := false }, { g := false }, {}, {}, {}, {}, {}, {}, {}, {}, {}, {}, { g := false }, { d := some (B true) }] [1, 3, 104] [4] (mk 105 [(1, (.one (.ref 1 0))), (3, (dt (I ((k : Nat) : Int)))), (104, (dt (B true)))] [(1, (.var [(.dat (I f.a)), (.dat (I f.p)), (.dat (I f.m)), (.dat (I f.s)), (.dat (.sl 2 (f.t.map encTrain)))]))]) ((True ∧ True ∧ True ∧ True ∧ True ∧ True ∧ True ∧ True ∧ (((decide (x36.c < 0)) == false) = true) ∧ True ∧ (((decide (x36.c < 0)) == false) = true) ∧ True ∧ (((decide (x36.c < 0)) == false) = true) ∧ True ∧ True ∧ ((decide (x36.c < 0)) = false) ∧ True ∧ True ∧ (((decide (x36.c ≥ 192)) == false) = true) ∧ True ∧ (((decide (x36.c ≥ 192)) == false) = true) ∧ True ∧ (((decide (x36.c ≥ 192)) == false) = true) ∧ True ∧ True ∧ ((decide (x36.c ≥ 192)) = false) ∧ True ∧ True ∧ (((decide (x36.s < 1)) == false) = false) ∧ (((decide (x36.s < 1)) == false) = false) ∧ (((decide (x36.s < 1)) == false) = false) ∧ True ∧ ((decide (x36.s < 1)) = true) ∧ True ∧ True ∧ ((true == false) = false) ∧ ((true == false) = false) ∧ ((true == false) = false) ∧ True ∧ True ∧ True ∧ True ∧ True ∧ True ∧ True ∧ True ∧ True ∧ True ∧ ((true == false) = false) ∧ True ∧ (true = true) ∧ True) ∧ True) (by kernel_rfl) (by kernel_rfl) (by kernel_rfl) ⟨⟨trivial, trivial, trivial, trivial, trivial, trivial, trivial, trivial, (by rw [show (decide (x36.c < 0)) = false from h38]; rfl), trivial, (by rw [show (decide (x36.c < 0)) = false from h38]; rfl), trivial, (by rw [show (decide (x36.c < 0)) = false from h38]; rfl), trivial, trivial, h38, trivial, trivial, (by rw [show (decide (x36.c ≥ 192)) = false from h41]; rfl), trivial, (by rw [show (decide (x36.c ≥ 192)) = false from h41]; rfl), trivial, (by rw [show (decide (x36.c ≥ 192)) = false from h41]; rfl), trivial, trivial, h41, trivial, trivial, (by rw [show (decide (x36.s < 1)) = true from h44]; rfl), (by rw [show (decide (x36.s < 1)) = true from h44]; rfl), (by rw [show (decide (x36.s < 1)) = true from h44]; rfl), trivial, h44, trivial, trivial, (by rw [show true = true from rfl]; rfl), (by rw [show true = true from rfl]; rfl), (by rw [show true = true from rfl]; rfl), trivial, trivial, trivial, trivial, trivial, trivial, trivial, trivial, trivial, trivial, (by rw [show true = true from rfl]; rfl), trivial, rfl, trivial⟩, trivial⟩ ?_
                                refine T_cond true (by kernel_rfl) (fun _ => ?_) (fun h => absurd (h.symm.trans rfl) (by decide))
                                refine T_reg [] [2] [1] (mk 105 [(2, (dt (I 380)))] []) (True ∧ True ∧ True) (by kernel_rfl) ⟨trivial, trivial, trivial⟩ ?_
                                refine T_ret ?_
                                exact ret_here [(dt (I 380))] (by kernel_rfl) (.inl (congrArg I (by first | exact chk_bad (by unfold headOK; simp only [decide_eq_true_eq, decide_eq_false_iff_not] at *; omega) | exact chk_bad2 (trOK_stop iv (by assumption) (by first | (simp only [decide_eq_true_eq, decide_eq_false_iff_not] at *; omega) | omega | (simp only [decide_eq_true_eq, decide_eq_false_iff_not] at *; by_cases hk : k = 0 <;> first | omega | (have := ip hk; omega)))) | exact chk_ok (by unfold headOK; simp only [decide_eq_true_eq, decide_eq_false_iff_not] at *; omega) (trOK_end iv (by omega)) : 380 = (chk f))))
                              · skip
                                have g46 : ¬ (x36.s < 1) := of_decide_eq_false (h44)
                                rcases Bool.eq_false_or_eq_true (decide (x36.s > 12)) with h47 | h47
                                · skip
                                  have g48 : x36.s > 12 := of_decide_eq_true (h47)
                                  refine T_regD 34 [{}, {}, {}, {}, {}, {}, {}, { d := some (B false) }, {}, {}, {}, {}, { d := some (B false) }, {}, {}, {}, {}, { d := some (B false) }, {}, { g := false }, { g := false }, { g := false }, {}, {}, {}, {}, {}, {}, {}, {}, {}, {}, { g := false }, { d := some (B true) }] [1, 3, 104] [4] (mk 105 [(1, (.one (.ref 1 0))), (3, (dt (I ((k : Nat) : Int)))), (104, (dt (B true)))] [(1, (.var [(.dat (I f.a)), (.dat (I f.p)), (.dat (I f.m)), (.dat (I f.s)), (.dat (.sl 2 (f.t.map encTrain)))]))]) ((True ∧ True ∧ True ∧ True ∧ True ∧ True ∧ True ∧ True ∧ (((decide (x36.c < 0)) == false) = true) ∧ True ∧ (((decide (x36.c < 0)) == false) = true) ∧ True ∧ (((decide (x36.c < 0)) == false) = true) ∧ True ∧ True ∧ ((decide (x36.c < 0)) = false) ∧ True ∧ True ∧ (((decide (x36.c ≥ 192)) == false) = true) ∧ True ∧ (((decide (x36.c ≥ 192)) == false) = true) ∧ True ∧ (((decide (x36.c ≥ 192)) == false) = true) ∧ True ∧ True ∧ ((decide (x36.c ≥ 192)) = false) ∧ True ∧ True ∧ (((decide (x36.s < 1)) == false) = true) ∧ True ∧ (((decide (x36.s < 1)) == false) = true) ∧ True ∧ (((decide (x36.s < 1)) == false) = true) ∧ True ∧ True ∧ ((decide (x36.s < 1)) = false) ∧ True ∧ True ∧ (((decide (x36.s > 12)) == false) = false) ∧ (((decide (x36.s > 12)) == false) = false) ∧ (((decide (x36.s > 12)) == false) = false) ∧ True ∧ True ∧ True ∧ True ∧ True ∧ True ∧ True ∧ True ∧ True ∧ True ∧ (((decide (x36.s > 12)) == false) = false) ∧ True ∧ ((decide (x36.s > 12)) = true) ∧ True) ∧ True) (by kernel_rfl) (by kernel_rfl) (by kernel_rfl) ⟨⟨trivial, trivial, trivial, trivial, trivial, trivial, trivial, trivial, (by rw [show (decide (x36.c < 0)) = false from h38]; rfl), trivial, (by rw [show (decide (x36.c < 0)) = false from h38]; rfl), trivial, (by rw [show (decide (x36.c < 0)) = false from h38]; rfl), trivial, trivial, h38, trivial, trivial, (by rw [show (decide (x36.c ≥ 192)) = false from h41]; rfl), trivial, (by rw [show (decide (x36.c ≥ 192)) = false from h41]; rfl), trivial, (by rw [show (decide (x36.c ≥ 192)) = false from h41]; rfl), trivial, trivial, h41, trivial, trivial, (by rw [show (decide (x36.s < 1)) = false from h44]; rfl), trivial, (by rw [show (decide (x36.s < 1)) = false from h44]; rfl), trivial, (by rw [show (decide (x36.s < 1)) = false from h44]; rfl), trivial, trivial, h44, trivial, trivial, (by rw [show (decide (x36.s > 12)) = true from h47]; rfl), (by rw [show (decide (x36.s > 12)) = true from h47]; rfl), (by rw [show (decide (x36.s > 12)) = true from h47]; rfl), trivial, trivial, trivial, trivial, trivial, trivial, trivial, trivial, trivial, trivial, (by rw [show (decide (x36.s > 12)) = true from h47]; rfl), trivial, h47, trivial⟩, trivial⟩ ?_
                                  refine T_cond true (by kernel_rfl) (fun _ => ?_) (fun h => absurd (h.symm.trans rfl) (by decide))
                                  refine T_reg [] [2] [1] (mk 105 [(2, (dt (I 380)))] []) (True ∧ True ∧ True) (by kernel_rfl) ⟨trivial, trivial, trivial⟩ ?_
                                  refine T_ret ?_
                                  exact ret_here [(dt (I 380))] (by kernel_rfl) (.inl (congrArg I (by first | exact chk_bad (by unfold headOK; simp only [decide_eq_true_eq, decide_eq_false_iff_not] at *; omega) | exact chk_bad2 (trOK_stop iv (by assumption) (by first | (simp only [decide_eq_true_eq, decide_eq_false_iff_not] at *; omega) | omega | (simp only [decide_eq_true_eq, decide_eq_false_iff_not] at *; by_cases hk : k = 0 <;> first | omega | (have := ip hk; omega)))) | exact chk_ok (by unfold headOK; simp only [decide_eq_true_eq, decide_eq_false_iff_not] at *; omega) (trOK_end iv (by omega)) : 380 = (chk f))))
                                · skip
                                  have g49 : ¬ (x36.s > 12) := of_decide_eq_false (h47)
                                  rcases Bool.eq_false_or_eq_true (decide (((k : Nat) : Int) > 0)) with h50 | h50
                                  · skip
                                    have g51 : ((k : Nat) : Int) > 0 := of_decide_eq_true (h50)
                                    refine T_regD 34 [{}, {}, {}, {}, {}, {}, {}, { d := some (B false) }, {}, {}, {}, {}, { d := some (B false) }, {}, {}, {}, {}, { d := some (B false) }, {}, {}, {}, {}, {}, {}, {}, {}, {}, { d := some (I (((k : Nat) : Int) - 1)) }, { d := some (.agg [(I e.c), (I e.s)]) }, {}, {}, {}, { d := some (B true) }, { d := some (B false) }] [1, 3, 104] [4] (mk 105 [(1, (.one (.ref 1 0))), (3, (dt (I ((k : Nat) : Int)))), (104, (dt (B (decide (x36.c ≤ e.c)))))] [(1, (.var [(.dat (I f.a)), (.dat (I f.p)), (.dat (I f.m)), (.dat (I f.s)), (.dat (.sl 2 (f.t.map encTrain)))]))]) ((True ∧ True ∧ True ∧ True ∧ True ∧ True ∧ True ∧ True ∧ (((decide (x36.c < 0)) == false) = true) ∧ True ∧ (((decide (x36.c < 0)) == false) = true) ∧ True ∧ (((decide (x36.c < 0)) == false) = true) ∧ True ∧ True ∧ ((decide (x36.c < 0)) = false) ∧ True ∧ True ∧ (((decide (x36.c ≥ 192)) == false) = true) ∧ True ∧ (((decide (x36.c ≥ 192)) == false) = true) ∧ True ∧ (((decide (x36.c ≥ 192)) == false) = true) ∧ True ∧ True ∧ ((decide (x36.c ≥ 192)) = false) ∧ True ∧ True ∧ (((decide (x36.s < 1)) == false) = true) ∧ True ∧ (((decide (x36.s < 1)) == false) = true) ∧ True ∧ (((decide (x36.s < 1)) == false) = true) ∧ True ∧ True ∧ ((decide (x36.s < 1)) = false) ∧ True ∧ True ∧ (((decide (x36.s > 12)) == false) = true) ∧ True ∧ (((decide (x36.s > 12)) == false) = true) ∧ True ∧ (((decide (x36.s > 12)) == false) = true) ∧ True ∧ (((decide (((k : Nat) : Int) > 0)) == true) = true) ∧ True ∧ (((decide (((k : Nat) : Int) > 0)) == true) = true) ∧ True ∧ (((decide (((k : Nat) : Int) > 0)) == true) = true) ∧ True ∧ (((decide (((k : Nat) : Int) > 0)) == true) = true) ∧ True ∧ (((decide (((k : Nat) : Int) > 0)) == true) = true) ∧ True ∧ (((decide (((k : Nat) : Int) > 0)) == true) = true) ∧ (IntKind.i64.wrap (((k : Nat) : Int) - 1) = (((k : Nat) : Int) - 1)) ∧ (((decide (((k : Nat) : Int) > 0)) == true) = true) ∧ (0 ≤ (((k : Nat) : Int) - 1) ∧ (f.t.map encTrain)[((((k : Nat) : Int) - 1)).toNat]? = some (.agg [(I e.c), (I e.s)])) ∧ (((decide (((k : Nat) : Int) > 0)) == true) = true) ∧ True ∧ (((decide (((k : Nat) : Int) > 0)) == true) = true) ∧ True ∧ (((decide (((k : Nat) : Int) > 0)) == true) = true) ∧ True ∧ (((decide (x36.s > 12)) == false) = true) ∧ ((decide (((k : Nat) : Int) > 0)) = true) ∧ True ∧ ((decide (x36.s > 12)) = false) ∧ True) ∧ True) (by kernel_rfl) (by kernel_rfl) (by kernel_rfl) ⟨⟨trivial, trivial, trivial, trivial, trivial, trivial, trivial, trivial, (by rw [show (decide (x36.c < 0)) = false from h38]; rfl), trivial, (by rw [show (decide (x36.c < 0)) = false from h38]; rfl), trivial, (by rw [show (decide (x36.c < 0)) = false from h38]; rfl), trivial, trivial, h38, trivial, trivial, (by rw [show (decide (x36.c ≥ 192)) = false from h41]; rfl), trivial, (by rw [show (decide (x36.c ≥ 192)) = false from h41]; rfl), trivial, (by rw [show (decide (x36.c ≥ 192)) = false from h41]; rfl), trivial, trivial, h41, trivial, trivial, (by rw [show (decide (x36.s < 1)) = false from h44]; rfl), trivial, (by rw [show (decide (x36.s < 1)) = false from h44]; rfl), trivial, (by rw [show (decide (x36.s < 1)) = false from h44]; rfl), trivial, trivial, h44, trivial, trivial, (by rw [show (decide (x36.s > 12)) = false from h47]; rfl), trivial, (by rw [show (decide (x36.s > 12)) = false from h47]; rfl), trivial, (by rw [show (decide (x36.s > 12)) = false from h47]; rfl), trivial, (by rw [show (decide (((k : Nat) : Int) > 0)) = true from h50]; rfl), trivial, (by rw [show (decide (((k : Nat) : Int) > 0)) = true from h50]; rfl), trivial, (by rw [show (decide (((k : Nat) : Int) > 0)) = true from h50]; rfl), trivial, (by rw [show (decide (((k : Nat) : Int) > 0)) = true from h50]; rfl), trivial, (by rw [show (decide (((k : Nat) : Int) > 0)) = true from h50]; rfl), trivial, (by rw [show (decide (((k : Nat) : Int) > 0)) = true from h50]; rfl), (i64_wrap (by omega) (by omega)), (by rw [show (decide (((k : Nat) : Int) > 0)) = true from h50]; rfl), ⟨by omega, by rw [show ((((k : Nat) : Int) - 1)).toNat = k - 1 from by omega]; rw [List.getElem?_map, (ip2 (by omega))]; rfl⟩, (by rw [show (decide (((k : Nat) : Int) > 0)) = true from h50]; rfl), trivial, (by rw [show (decide (((k : Nat) : Int) > 0)) = true from h50]; rfl), trivial, (by rw [show (decide (((k : Nat) : Int) > 0)) = true from h50]; rfl), trivial, (by rw [show (decide (x36.s > 12)) = false from h47]; rfl), h50, trivial, h47, trivial⟩, trivial⟩ ?_
                                    refine T_cond (decide (x36.c ≤ e.c)) (by kernel_rfl) (fun h52 => ?_) (fun h52 => ?_)
                                    · skip
                                      have g53 : x36.c ≤ e.c := of_decide_eq_true (h52)
                                      refine T_reg [] [2] [1] (mk 105 [(2, (dt (I 380)))] []) (True ∧ True ∧ True) (by kernel_rfl) ⟨trivial, trivial, trivial⟩ ?_
                                      refine T_ret ?_
                                      exact ret_here [(dt (I 380))] (by kernel_rfl) (.inl (congrArg I (by first | exact chk_bad (by unfold headOK; simp only [decide_eq_true_eq, decide_eq_false_iff_not] at *; omega) | exact chk_bad2 (trOK_stop iv (by assumption) (by first | (simp only [decide_eq_true_eq, decide_eq_false_iff_not] at *; omega) | omega | (simp only [decide_eq_true_eq, decide_eq_false_iff_not] at *; by_cases hk : k = 0 <;> first | omega | (have := ip hk; omega)))) | exact chk_ok (by unfold headOK; simp only [decide_eq_true_eq, decide_eq_false_iff_not] at *; omega) (trOK_end iv (by omega)) : 380 = (chk f))))
                                    · skip
                                      have g54 : ¬ (x36.c ≤ e.c) := of_decide_eq_false (h52)
                                      refine T_skip ?_
                                      refine T_regE [{}, { d := some (I ((k + 1 : Nat) : Int)) }] (mk 105 [(1, (.one (.ref 1 0))), (3, (dt (I ((k + 1 : Nat) : Int)))), (64, (dt (I ((k : Nat) : Int)))), (65, (dt (I ((k + 1 : Nat) : Int)))), (104, (dt (B (decide (x36.c ≤ e.c)))))] [(1, (.var [(.dat (I f.a)), (.dat (I f.p)), (.dat (I f.m)), (.dat (I f.s)), (.dat (.sl 2 (f.t.map encTrain)))]))]) (True ∧ True ∧ True ∧ (IntKind.i64.wrap (((k : Nat) : Int) + 1) = ((k + 1 : Nat) : Int)) ∧ True ∧ True ∧ True) (by kernel_rfl) ⟨trivial, trivial, trivial, (by rw [i64_wrap (by omega) (by omega)]; omega), trivial, trivial, trivial⟩ ?_
                                      refine Exists.intro (k + 1, x36) ⟨⟨by omega, trOK_step iv hx37 (by first | (simp only [decide_eq_true_eq, decide_eq_false_iff_not] at *; omega) | omega | (simp only [decide_eq_true_eq, decide_eq_false_iff_not] at *; by_cases hk : k = 0 <;> first | omega | (have := ip hk; omega))), fun h => by omega, fun _ => by simpa using hx37, trivial⟩, by first | omega | (dsimp only; omega), le_turn [] [1, 3] [] (by kernel_rfl)⟩
                                  · skip
                                    have g55 : ¬ (((k : Nat) : Int) > 0) := of_decide_eq_false (h50)
                                    refine T_regD 34 [{}, {}, {}, {}, {}, {}, {}, { d := some (B false) }, {}, {}, {}, {}, { d := some (B false) }, {}, {}, {}, {}, { d := some (B false) }, {}, {}, {}, {}, { g := false }, { g := false }, { g := false }, { g := false }, { g := false }, { g := false }, { g := false }, { g := false }, { g := false }, { g := false }, { d := some (B false) }, { d := some (B false) }] [1, 3, 104] [4] (mk 105 [(1, (.one (.ref 1 0))), (3, (dt (I ((k : Nat) : Int)))), (104, (dt (B false)))] [(1, (.var [(.dat (I f.a)), (.dat (I f.p)), (.dat (I f.m)), (.dat (I f.s)), (.dat (.sl 2 (f.t.map encTrain)))]))]) ((True ∧ True ∧ True ∧ True ∧ True ∧ True ∧ True ∧ True ∧ (((decide (x36.c < 0)) == false) = true) ∧ True ∧ (((decide (x36.c < 0)) == false) = true) ∧ True ∧ (((decide (x36.c < 0)) == false) = true) ∧ True ∧ True ∧ ((decide (x36.c < 0)) = false) ∧ True ∧ True ∧ (((decide (x36.c ≥ 192)) == false) = true) ∧ True ∧ (((decide (x36.c ≥ 192)) == false) = true) ∧ True ∧ (((decide (x36.c ≥ 192)) == false) = true) ∧ True ∧ True ∧ ((decide (x36.c ≥ 192)) = false) ∧ True ∧ True ∧ (((decide (x36.s < 1)) == false) = true) ∧ True ∧ (((decide (x36.s < 1)) == false) = true) ∧ True ∧ (((decide (x36.s < 1)) == false) = true) ∧ True ∧ True ∧ ((decide (x36.s < 1)) = false) ∧ True ∧ True ∧ (((decide (x36.s > 12)) == false) = true) ∧ True ∧ (((decide (x36.s > 12)) == false) = true) ∧ True ∧ (((decide (x36.s > 12)) == false) = true) ∧ True ∧ (((decide (((k : Nat) : Int) > 0)) == true) = false) ∧ (((decide (((k : Nat) : Int) > 0)) == true) = false) ∧ (((decide (((k : Nat) : Int) > 0)) == true) = false) ∧ (((decide (((k : Nat) : Int) > 0)) == true) = false) ∧ (((decide (((k : Nat) : Int) > 0)) == true) = false) ∧ (((decide (((k : Nat) : Int) > 0)) == true) = false) ∧ (((decide (((k : Nat) : Int) > 0)) == true) = false) ∧ (((decide (((k : Nat) : Int) > 0)) == true) = false) ∧ (((decide (((k : Nat) : Int) > 0)) == true) = false) ∧ (((decide (((k : Nat) : Int) > 0)) == true) = false) ∧ (((decide (x36.s > 12)) == false) = true) ∧ ((decide (((k : Nat) : Int) > 0)) = false) ∧ True ∧ ((decide (x36.s > 12)) = false) ∧ True) ∧ True) (by kernel_rfl) (by kernel_rfl) (by kernel_rfl) ⟨⟨trivial, trivial, trivial, trivial, trivial, trivial, trivial, trivial, (by rw [show (decide (x36.c < 0)) = false from h38]; rfl), trivial, (by rw [show (decide (x36.c < 0)) = false from h38]; rfl), trivial, (by rw [show (decide (x36.c < 0)) = false from h38]; rfl), trivial, trivial, h38, trivial, trivial, (by rw [show (decide (x36.c ≥ 192)) = false from h41]; rfl), trivial, (by rw [show (decide (x36.c ≥ 192)) = false from h41]; rfl), trivial, (by rw [show (decide (x36.c ≥ 192)) = false from h41]; rfl), trivial, trivial, h41, trivial, trivial, (by rw [show (decide (x36.s < 1)) = false from h44]; rfl), trivial, (by rw [show (decide (x36.s < 1)) = false from h44]; rfl), trivial, (by rw [show (decide (x36.s < 1)) = false from h44]; rfl), trivial, trivial, h44, trivial, trivial, (by rw [show (decide (x36.s > 12)) = false from h47]; rfl), trivial, (by rw [show (decide (x36.s > 12)) = false from h47]; rfl), trivial, (by rw [show (decide (x36.s > 12)) = false from h47]; rfl), trivial, (by rw [show (decide (((k : Nat) : Int) > 0)) = false from h50]; rfl), (by rw [show (decide (((k : Nat) : Int) > 0)) = false from h50]; rfl), (by rw [show (decide (((k : Nat) : Int) > 0)) = false from h50]; rfl), (by rw [show (decide (((k : Nat) : Int) > 0)) = false from h50]; rfl), (by rw [show (decide (((k : Nat) : Int) > 0)) = false from h50]; rfl), (by rw [show (decide (((k : Nat) : Int) > 0)) = false from h50]; rfl), (by rw [show (decide (((k : Nat) : Int) > 0)) = false from h50]; rfl), (by rw [show (decide (((k : Nat) : Int) > 0)) = false from h50]; rfl), (by rw [show (decide (((k : Nat) : Int) > 0)) = false from h50]; rfl), (by rw [show (decide (((k : Nat) : Int) > 0)) = false from h50]; rfl), (by rw [show (decide (x36.s > 12)) = false from h47]; rfl), h50, trivial, h47, trivial⟩, trivial⟩ ?_
                                    refine T_cond false (by kernel_rfl) (fun h => absurd (h.symm.trans rfl) (by decide)) (fun _ => ?_)
                                    refine T_skip ?_
                                    refine T_regE [{}, { d := some (I ((k + 1 : Nat) : Int)) }] (mk 105 [(1, (.one (.ref 1 0))), (3, (dt (I ((k + 1 : Nat) : Int)))), (64, (dt (I ((k : Nat) : Int)))), (65, (dt (I ((k + 1 : Nat) : Int)))), (104, (dt (B false)))] [(1, (.var [(.dat (I f.a)), (.dat (I f.p)), (.dat (I f.m)), (.dat (I f.s)), (.dat (.sl 2 (f.t.map encTrain)))]))]) (True ∧ True ∧ True ∧ (IntKind.i64.wrap (((k : Nat) : Int) + 1) = ((k + 1 : Nat) : Int)) ∧ True ∧ True ∧ True) (by kernel_rfl) ⟨trivial, trivial, trivial, (by rw [i64_wrap (by omega) (by omega)]; omega), trivial, trivial, trivial⟩ ?_
                                    refine Exists.intro (k + 1, x36) ⟨⟨by omega, trOK_step iv hx37 (by first | (simp only [decide_eq_true_eq, decide_eq_false_iff_not] at *; omega) | omega | (simp only [decide_eq_true_eq, decide_eq_false_iff_not] at *; by_cases hk : k = 0 <;> first | omega | (have := ip hk; omega))), fun h => by omega, fun _ => by simpa using hx37, trivial⟩, by first | omega | (dsimp only; omega), le_turn [] [1, 3] [] (by kernel_rfl)⟩
                        · skip
                          have g56 : ¬ (((k : Nat) : Int) < ((f.t.length : Nat) : Int)) := of_decide_eq_false (h33)
                          refine T_exit ?_
                          refine T_reg [] [2] [1] (mk 105 [(2, (dt (I 0)))] []) (True ∧ True ∧ True) (by kernel_rfl) ⟨trivial, trivial, trivial⟩ ?_
                          refine T_ret ?_
                          exact ret_here [(dt (I 0))] (by kernel_rfl) (.inl (congrArg I (by first | exact chk_bad (by unfold headOK; simp only [decide_eq_true_eq, decide_eq_false_iff_not] at *; omega) | exact chk_bad2 (trOK_stop iv (by assumption) (by first | (simp only [decide_eq_true_eq, decide_eq_false_iff_not] at *; omega) | omega | (simp only [decide_eq_true_eq, decide_eq_false_iff_not] at *; by_cases hk : k = 0 <;> first | omega | (have := ip hk; omega)))) | exact chk_ok (by unfold headOK; simp only [decide_eq_true_eq, decide_eq_false_iff_not] at *; omega) (trOK_end iv (by omega)) : 0 = (chk f))))
                  · skip
                    have g57 : f.m ≠ (-1) := ne_of_beq_false (h25)
                    refine T_reg [{}, {}, {}, {}, {}, {}, {}, { d := some (B false) }, {}, {}, {}, {}, { d := some (B false) }, {}, {}, {}, {}, { d := some (B false) }, {}, {}, {}, {}, { d := some (B false) }, {}, {}, {}, {}, { d := some (B false) }, {}, {}, {}, {}, { d := some (B false) }, {}, {}, {}, {}, { d := some (B false) }, {}, {}, {}, {}, {}, { g := false }, { g := false }, { g := false }, { d := some (B false) }, { d := some (B false) }, {}, {}, {}, { d := some (I ((f.t.length : Nat) : Int)) }, {}, { d := some (B false) }] [1, 58] [] (mk 105 [(1, (.one (.ref 1 0))), (58, (dt (B (decide (((f.t.length : Nat) : Int) > 40)))))] [(1, (.var [(.dat (I f.a)), (.dat (I f.p)), (.dat (I f.m)), (.dat (I f.s)), (.dat (.sl 2 (f.t.map encTrain)))]))]) (True ∧ True ∧ True ∧ True ∧ True ∧ True ∧ True ∧ True ∧ (((decide (f.a < 0)) == false) = true) ∧ True ∧ (((decide (f.a < 0)) == false) = true) ∧ True ∧ (((decide (f.a < 0)) == false) = true) ∧ True ∧ True ∧ ((decide (f.a < 0)) = false) ∧ True ∧ True ∧ (((decide (f.a > 1125899906842624)) == false) = true) ∧ True ∧ (((decide (f.a > 1125899906842624)) == false) = true) ∧ True ∧ (((decide (f.a > 1125899906842624)) == false) = true) ∧ True ∧ True ∧ ((decide (f.a > 1125899906842624)) = false) ∧ True ∧ True ∧ (((decide (f.p < 0)) == false) = true) ∧ True ∧ (((decide (f.p < 0)) == false) = true) ∧ True ∧ (((decide (f.p < 0)) == false) = true) ∧ True ∧ True ∧ ((decide (f.p < 0)) = false) ∧ True ∧ True ∧ (((decide (f.p > 1125899906842624)) == false) = true) ∧ True ∧ (((decide (f.p > 1125899906842624)) == false) = true) ∧ True ∧ (((decide (f.p > 1125899906842624)) == false) = true) ∧ True ∧ True ∧ ((decide (f.p > 1125899906842624)) = false) ∧ True ∧ True ∧ (((decide (f.m < (-1))) == false) = true) ∧ True ∧ (((decide (f.m < (-1))) == false) = true) ∧ True ∧ (((decide (f.m < (-1))) == false) = true) ∧ True ∧ True ∧ ((decide (f.m < (-1))) = false) ∧ True ∧ True ∧ (((decide (f.m ≥ 192)) == false) = true) ∧ True ∧ (((decide (f.m ≥ 192)) == false) = true) ∧ True ∧ (((decide (f.m ≥ 192)) == false) = true) ∧ True ∧ True ∧ ((decide (f.m ≥ 192)) = false) ∧ True ∧ True ∧ (((decide (f.s < 0)) == false) = true) ∧ True ∧ (((decide (f.s < 0)) == false) = true) ∧ True ∧ (((decide (f.s < 0)) == false) = true) ∧ True ∧ True ∧ ((decide (f.s < 0)) = false) ∧ True ∧ True ∧ (((decide (f.s > 1000)) == false) = true) ∧ True ∧ (((decide (f.s > 1000)) == false) = true) ∧ True ∧ (((decide (f.s > 1000)) == false) = true) ∧ True ∧ (((decide (f.s > 1000)) == false) = true) ∧ True ∧ (((f.m == (-1)) == true) = false) ∧ (((f.m == (-1)) == true) = false) ∧ (((f.m == (-1)) == true) = false) ∧ (((decide (f.s > 1000)) == false) = true) ∧ ((f.m == (-1)) = false) ∧ True ∧ ((decide (f.s > 1000)) = false) ∧ True ∧ True ∧ ((false == false) = true) ∧ True ∧ ((false == false) = true) ∧ True ∧ ((false == false) = true) ∧ (True ∧ D.int .i64 ((f.t.map encTrain).length : Int) = (I ((f.t.length : Nat) : Int))) ∧ ((false == false) = true) ∧ True ∧ True ∧ (false = false) ∧ True) (by kernel_rfl) ⟨trivial, trivial, trivial, trivial, trivial, trivial, trivial, trivial, (by rw [show (decide (f.a < 0)) = false from h1]; rfl), trivial, (by rw [show (decide (f.a < 0)) = false from h1]; rfl), trivial, (by rw [show (decide (f.a < 0)) = false from h1]; rfl), trivial, trivial, h1, trivial, trivial, (by rw [show (decide (f.a > 1125899906842624)) = false from h4]; rfl), trivial, (by rw [show (decide (f.a > 1125899906842624)) = false from h4]; rfl), trivial, (by rw [show (decide (f.a > 1125899906842624)) = false from h4]; rfl), trivial, trivial, h4, trivial, trivial, (by rw [show (decide (f.p < 0)) = false from h7]; rfl), trivial, (by rw [show (decide (f.p < 0)) = false from h7]; rfl), trivial, (by rw [show (decide (f.p < 0)) = false from h7]; rfl), trivial, trivial, h7, trivial, trivial, (by rw [show (decide (f.p > 1125899906842624)) = false from h10]; rfl), trivial, (by rw [show (decide (f.p > 1125899906842624)) = false from h10]; rfl), trivial, (by rw [show (decide (f.p > 1125899906842624)) = false from h10]; rfl), trivial, trivial, h10, trivial, trivial, (by rw [show (decide (f.m < (-1))) = false from h13]; rfl), trivial, (by rw [show (decide (f.m < (-1))) = false from h13]; rfl), trivial, (by rw [show (decide (f.m < (-1))) = false from h13]; rfl), trivial, trivial, h13, trivial, trivial, (by rw [show (decide (f.m ≥ 192)) = false from h16]; rfl), trivial, (by rw [show (decide (f.m ≥ 192)) = false from h16]; rfl), trivial, (by rw [show (decide (f.m ≥ 192)) = false from h16]; rfl), trivial, trivial, h16, trivial, trivial, (by rw [show (decide (f.s < 0)) = false from h19]; rfl), trivial, (by rw [show (decide (f.s < 0)) = false from h19]; rfl), trivial, (by rw [show (decide (f.s < 0)) = false from h19]; rfl), trivial, trivial, h19, trivial, trivial, (by rw [show (decide (f.s > 1000)) = false from h22]; rfl), trivial, (by rw [show (decide (f.s > 1000)) = false from h22]; rfl), trivial, (by rw [show (decide (f.s > 1000)) = false from h22]; rfl), trivial, (by rw [show (decide (f.s > 1000)) = false from h22]; rfl), trivial, (by rw [show (f.m == (-1)) = false from h25]; rfl), (by rw [show (f.m == (-1)) = false from h25]; rfl), (by rw [show (f.m == (-1)) = false from h25]; rfl), (by rw [show (decide (f.s > 1000)) = false from h22]; rfl), h25, trivial, h22, trivial, trivial, (by rw [show false = false from rfl]; rfl), trivial, (by rw [show false = false from rfl]; rfl), trivial, (by rw [show false = false from rfl]; rfl), ⟨trivial, by rw [List.length_map]⟩, (by rw [show false = false from rfl]; rfl), trivial, trivial, rfl, trivial⟩ ?_
                    refine T_cond (decide (((f.t.length : Nat) : Int) > 40)) (by kernel_rfl) (fun h58 => ?_) (fun h58 => ?_)
                    · skip
                      have g59 : ((f.t.length : Nat) : Int) > 40 := of_decide_eq_true (h58)
                      refine T_reg [] [2] [1] (mk 105 [(2, (dt (I 380)))] []) (True ∧ True ∧ True) (by kernel_rfl) ⟨trivial, trivial, trivial⟩ ?_
                      refine T_ret ?_
                      exact ret_here [(dt (I 380))] (by kernel_rfl) (.inl (congrArg I (by first | exact chk_bad (by unfold headOK; simp only [decide_eq_true_eq, decide_eq_false_iff_not] at *; omega) | exact chk_bad2 (trOK_stop iv (by assumption) (by first | (simp only [decide_eq_true_eq, decide_eq_false_iff_not] at *; omega) | omega | (simp only [decide_eq_true_eq, decide_eq_false_iff_not] at *; by_cases hk : k = 0 <;> first | omega | (have := ip hk; omega)))) | exact chk_ok (by unfold headOK; simp only [decide_eq_true_eq, decide_eq_false_iff_not] at *; omega) (trOK_end iv (by omega)) : 380 = (chk f))))
                    · skip
                      have g60 : ¬ (((f.t.length : Nat) : Int) > 40) := of_decide_eq_false (h58)
                      refine T_skip ?_
                      refine T_seq ?_
                      refine T_reg [] [1, 3] [] (mk 105 [(1, (.one (.ref 1 0))), (3, (dt (I 0)))] [(1, (.var [(.dat (I f.a)), (.dat (I f.p)), (.dat (I f.m)), (.dat (I f.s)), (.dat (.sl 2 (f.t.map encTrain)))]))]) (True ∧ True ∧ True) (by kernel_rfl) ⟨trivial, trivial, trivial⟩ ?_
                      refine T_block ?_
                      refine T_turn [] [1, 3] [] ((fun ((k, e) : Nat × Train) => (mk 105 [(1, (.one (.ref 1 0))), (3, (dt (I ((k : Nat) : Int))))] [(1, (.var [(.dat (I f.a)), (.dat (I f.p)), (.dat (I f.m)), (.dat (I f.s)), (.dat (.sl 2 (f.t.map encTrain)))]))])) (0, ⟨-1, 0⟩)) (by kernel_rfl) (T_loop (α := Nat × Train) (fun ((k, e) : Nat × Train) => (mk 105 [(1, (.one (.ref 1 0))), (3, (dt (I ((k : Nat) : Int))))] [(1, (.var [(.dat (I f.a)), (.dat (I f.p)), (.dat (I f.m)), (.dat (I f.s)), (.dat (.sl 2 (f.t.map encTrain)))]))])) (fun ((k, e) : Nat × Train) => (k ≤ (f.t).length) ∧ (trOK e.c (f.t.drop k) = trOK (-1) f.t) ∧ (k = 0 → e.c = -1) ∧ (0 < k → f.t[k - 1]? = some e) ∧ True) (fun ((k, e) : Nat × Train) => (f.t).length - k) (0, ⟨-1, 0⟩) ⟨Nat.zero_le _, rfl, fun _ => rfl, fun h => absurd h (Nat.lt_irrefl _), trivial⟩ ?_)
                      rintro ⟨k, e⟩ ⟨ik, iv, ip, ip2, _⟩
                      refine T_seq ?_
                      refine T_reg [{}, {}, {}, { d := some (I ((f.t.length : Nat) : Int)) }] [1, 3, 63] [] (mk 105 [(1, (.one (.ref 1 0))), (3, (dt (I ((k : Nat) : Int)))), (63, (dt (B (decide (((k : Nat) : Int) < ((f.t.length : Nat) : Int))))))] [(1, (.var [(.dat (I f.a)), (.dat (I f.p)), (.dat (I f.m)), (.dat (I f.s)), (.dat (.sl 2 (f.t.map encTrain)))]))]) (True ∧ True ∧ True ∧ True ∧ True ∧ True ∧ True ∧ (True ∧ D.int .i64 ((f.t.map encTrain).length : Int) = (I ((f.t.length : Nat) : Int))) ∧ True ∧ True ∧ True) (by kernel_rfl) ⟨trivial, trivial, trivial, trivial, trivial, trivial, trivial, ⟨trivial, by rw [List.length_map]⟩, trivial, trivial, trivial⟩ ?_
                      refine T_cond (decide (((k : Nat) : Int) < ((f.t.length : Nat) : Int))) (by kernel_rfl) (fun h61 => ?_) (fun h61 => ?_)
                      · skip
                        have g62 : ((k : Nat) : Int) < ((f.t.length : Nat) : Int) := of_decide_eq_true (h61)
                        refine T_skip ?_
                        refine T_seq ?_
                        refine T_block ?_
                        have lt63 : k < (f.t).length := by first | omega | (simp only [List.length_set, List.length_map, List.length_append, List.length_cons, List.length_nil] at *; omega)
                        obtain ⟨x64, hx65⟩ : ∃ x, (f.t)[k]? = some x := ⟨_, List.getElem?_eq_getElem lt63⟩
                        refine T_reg [{}, {}, {}, { d := some (.agg [(I x64.c), (I x64.s)]) }] [1, 3, 4] [] (mk 105 [(1, (.one (.ref 1 0))), (3, (dt (I ((k : Nat) : Int)))), (4, (.one (.ref 4 0)))] [(4, (.var [(.dat (I x64.c)), (.dat (I x64.s))])), (1, (.var [(.dat (I f.a)), (.dat (I f.p)), (.dat (I f.m)), (.dat (I f.s)), (.dat (.sl 2 (f.t.map encTrain)))]))]) (True ∧ True ∧ True ∧ True ∧ True ∧ True ∧ True ∧ (0 ≤ ((k : Nat) : Int) ∧ (f.t.map encTrain)[k]? = some (.agg [(I x64.c), (I x64.s)])) ∧ True ∧ True ∧ True ∧ True ∧ True ∧ True ∧ True) (by kernel_rfl) ⟨trivial, trivial, trivial, trivial, trivial, trivial, trivial, ⟨by omega, by rw [List.getElem?_map, hx65]; rfl⟩, trivial, trivial, trivial, trivial, trivial, trivial, trivial⟩ ?_
                        rcases Bool.eq_false_or_eq_true (decide (x64.c < 0)) with h66 | h66
                        · skip
                          have g67 : x64.c < 0 := of_decide_eq_true (h66)
                          refine T_regD 34 [{}, {}, {}, {}, { g := false }, { g := false }, { g := false }, { d := some (B true) }, {}, { g := false }, { g := false }, { g := false }, { d := some (B true) }, {}, { g := false }, { g := false }, { g := false }, { d := some (B true) }, {}, { g := false }, { g := false }, { g := false }, {}, {}, {}, {}, {}, {}, {}, {}, {}, {}, { g := false }, { d := some (B true) }] [1, 3, 104] [4] (mk 105 [(1, (.one (.ref 1 0))), (3, (dt (I ((k : Nat) : Int)))), (104, (dt (B true)))] [(1, (.var [(.dat (I f.a)), (.dat (I f.p)), (.dat (I f.m)), (.dat (I f.s)), (.dat (.sl 2 (f.t.map encTrain)))]))]) ((True ∧ True ∧ True ∧ True ∧ True ∧ True ∧ True ∧ True ∧ (((decide (x64.c < 0)) == false) = false) ∧ (((decide (x64.c < 0)) == false) = false) ∧ (((decide (x64.c < 0)) == false) = false) ∧ True ∧ ((decide (x64.c < 0)) = true) ∧ True ∧ True ∧ ((true == false) = false) ∧ ((true == false) = false) ∧ ((true == false) = false) ∧ True ∧ (true = true) ∧ True ∧ True ∧ ((true == false) = false) ∧ ((true == false) = false) ∧ ((true == false) = false) ∧ True ∧ (true = true) ∧ True ∧ True ∧ ((true == false) = false) ∧ ((true == false) = false) ∧ ((true == false) = false) ∧ True ∧ True ∧ True ∧ True ∧ True ∧ True ∧ True ∧ True ∧ True ∧ True ∧ ((true == false) = false) ∧ True ∧ (true = true) ∧ True) ∧ True) (by kernel_rfl) (by kernel_rfl) (by kernel_rfl) ⟨⟨trivial, trivial, trivial, trivial, trivial, trivial, trivial, trivial, (by rw [show (decide (x64.c < 0)) = true from h66]; rfl), (by rw [show (decide (x64.c < 0)) = true from h66]; rfl), (by rw [show (decide (x64.c < 0)) = true from h66]; rfl), trivial, h66, trivial, trivial, (by rw [show true = true from rfl]; rfl), (by rw [show true = true from rfl]; rfl), (by rw [show true = true from rfl]; rfl), trivial, rfl, trivial, trivial, (by rw [show true = true from rfl]; rfl), (by rw [show true = true from rfl]; rfl), (by rw [show true = true from rfl]; rfl), trivial, rfl, trivial, trivial, (by rw [show true = true from rfl]; rfl), (by rw [show true = true from rfl]; rfl), (by rw [show true = true from rfl]; rfl), trivial, trivial, trivial, trivial, trivial, trivial, trivial, trivial, trivial, trivial, (by rw [show true = true from rfl]; rfl), trivial, rfl, trivial⟩, trivial⟩ ?_
                          refine T_cond true (by kernel_rfl) (fun _ => ?_) (fun h => absurd (h.symm.trans rfl) (by decide))
                          refine T_reg [] [2] [1] (mk 105 [(2, (dt (I 380)))] []) (True ∧ True ∧ True) (by kernel_rfl) ⟨trivial, trivial, trivial⟩ ?_
                          refine T_ret ?_
                          exact ret_here [(dt (I 380))] (by kernel_rfl) (.inl (congrArg I (by first | exact chk_bad (by unfold headOK; simp only [decide_eq_true_eq, decide_eq_false_iff_not] at *; omega) | exact chk_bad2 (trOK_stop iv (by assumption) (by first | (simp only [decide_eq_true_eq, decide_eq_false_iff_not] at *; omega) | omega | (simp only [decide_eq_true_eq, decide_eq_false_iff_not] at *; by_cases hk : k = 0 <;> first | omega | (have := ip hk; omega)))) | exact chk_ok (by unfold headOK; simp only [decide_eq_true_eq, decide_eq_false_iff_not] at *; omega) (trOK_end iv (by omega)) : 380 = (chk f))))
                        · skip
                          have g68 : ¬ (x64.c < 0) := of_decide_eq_false (h66)
                          rcases Bool.eq_false_or_eq_true (decide (x64.c ≥ 192)) with h69 | h69
                          · skip
                            have g70 : x64.c ≥ 192 := of_decide_eq_true (h69)
                            refine T_regD 34 [{}, {}, {}, {}, {}, {}, {}, { d := some (B false) }, {}, { g := false }, { g := false }, { g := false }, { d := some (B true) }, {}, { g := false }, { g := false }, { g := false }, { d := some (B true) }, {}, { g := false }, { g := false }, { g := false }, {}, {}, {}, {}, {}, {}, {}, {}, {}, {}, { g := false }, { d := some (B true) }] [1, 3, 104] [4] (mk 105 [(1, (.one (.ref 1 0))), (3, (dt (I ((k : Nat) : Int)))), (104, (dt (B true)))] [(1, (.var [(.dat (I f.a)), (.dat (I f.p)), (.dat (I f.m)), (.dat (I f.s)), (.dat (.sl 2 (f.t.map encTrain)))]))]) ((True ∧ True ∧ True ∧ True ∧ True ∧ True ∧ True ∧ True ∧ (((decide (x64.c < 0)) == false) = true) ∧ True ∧ (((decide (x64.c < 0)) == false) = true) ∧ True ∧ (((decide (x64.c < 0)) == false) = true) ∧ True ∧ True ∧ ((decide (x64.c < 0)) = false) ∧ True ∧ True ∧ (((decide (x64.c ≥ 192)) == false) = false) ∧ (((decide (x64.c ≥ 192)) == false) = false) ∧ (((decide (x64.c ≥ 192)) == false) = false) ∧ True ∧ ((decide (x64.c ≥ 192)) = true) ∧ True ∧ True ∧ ((true == false) = false) ∧ ((true == false) = false) ∧ ((true == false) = false) ∧ True ∧ (true = true) ∧ True ∧ True ∧ ((true == false) = false) ∧ ((true == false) = false) ∧ ((true == false) = false) ∧ True ∧ True ∧ True ∧ True ∧ True ∧ True ∧ True ∧ True ∧ True ∧ True ∧ ((true == false) = false) ∧ True ∧ (true = true) ∧ True) ∧ True) (by kernel_rfl) (by kernel_rfl) (by kernel_rfl) ⟨⟨trivial, trivial, trivial, trivial, trivial, trivial, trivial, trivial, (by rw [show (decide (x64.c < 0)) = false from h66]; rfl), trivial, (by rw [show (decide (x64.c < 0)) = false from h66]; rfl), trivial, (by rw [show (decide (x64.c < 0)) = false from h66]; rfl), trivial, trivial, h66, trivial, trivial, (by rw [show (decide (x64.c ≥ 192)) = true from h69]; rfl), (by rw [show (decide (x64.c ≥ 192)) = true from h69]; rfl), (by rw [show (decide (x64.c ≥ 192)) = true from h69]; rfl), trivial, h69, trivial, trivial, (by rw [show true = true from rfl]; rfl), (by rw [show true = true from rfl]; rfl), (by rw [show true = true from rfl]; rfl), trivial, rfl, trivial, trivial, (by rw [show true = true from rfl]; rfl), (by rw [show true = true from rfl]; rfl), (by rw [show true = true from rfl]; rfl), trivial, trivial, trivial, trivial, trivial, trivial, trivial, trivial, trivial, trivial, (by rw [show true = true from rfl]; rfl), trivial, rfl, trivial⟩, trivial⟩ ?_
                            refine T_cond true (by kernel_rfl) (fun _ => ?_) (fun h => absurd (h.symm.trans rfl) (by decide))
                            refine T_reg [] [2] [1] (mk 105 [(2, (dt (I 380)))] []) (True ∧ True ∧ True) (by kernel_rfl) ⟨trivial, trivial, trivial⟩ ?_
                            refine T_ret ?_
                            exact ret_here [(dt (I 380))] (by kernel_rfl) (.inl (congrArg I (by first | exact chk_bad (by unfold headOK; simp only [decide_eq_true_eq, decide_eq_false_iff_not] at *; omega) | exact chk_bad2 (trOK_stop iv (by assumption) (by first | (simp only [decide_eq_true_eq, decide_eq_false_iff_not] at *; omega) | omega | (simp only [decide_eq_true_eq, decide_eq_false_iff_not] at *; by_cases hk : k = 0 <;> first | omega | (have := ip hk; omega)))) | exact chk_ok (by unfold headOK; simp only [decide_eq_true_eq, decide_eq_false_iff_not] at *; omega) (trOK_end iv (by omega)) : 380 = (chk f))))
                          · skip
                            have g71 : ¬ (x64.c ≥ 192) := of_decide_eq_false (h69)
                            rcases Bool.eq_false_or_eq_true (decide (x64.s < 1)) with h72 | h72
                            · skip
                              have g73 : x64.s < 1 := of_decide_eq_true (h72)
                              refine T_regD 34 [{}, {}, {}, {}, {}, {}, {}, { d := some (B false) }, {}, {}, {}, {}, { d := some (B false) }, {}, { g := false }, { g := false }, { g := false }, { d := some (B true) }, {}, { g := false }, { g := false }, { g := false }, {}, {}, {}, {}, {}, {}, {}, {}, {}, {}, { g := false }, { d := some (B true) }] [1, 3, 104] [4] (mk 105 [(1, (.one (.ref 1 0))), (3, (dt (I ((k : Nat) : Int)))), (104, (dt (B true)))] [(1, (.var [(.dat (I f.a)), (.dat (I f.p)), (.dat (I f.m)), (.dat (I f.s)), (.dat (.sl 2 (f.t.map encTrain)))]))]) ((True ∧ True ∧ True ∧ True ∧ True ∧ True ∧ True ∧ True ∧ (((decide (x64.c < 0)) == false) = true) ∧ True ∧ (((decide (x64.c < 0)) == false) = true) ∧ True ∧ (((decide (x64.c < 0)) == false) = true) ∧ True ∧ True ∧ ((decide (x64.c < 0)) = false) ∧ True ∧ True ∧ (((decide (x64.c ≥ 192)) == false) = true) ∧ True ∧ (((decide (x64.c ≥ 192)) == false) = true) ∧ True ∧ (((decide (x64.c ≥ 192)) == false) = true) ∧ True ∧ True ∧ ((decide (x64.c ≥ 192)) = false) ∧ True ∧ True ∧ (((decide (x64.s < 1)) == false) = false) ∧ (((decide (x64.s < 1)) == false) = false) ∧ (((decide (x64.s < 1)) == false) = false) ∧ True ∧ ((decide (x64.s < 1)) = true) ∧ True ∧ True ∧ ((true == false) = false) ∧ ((true == false) = false) ∧ ((true == false) = false) ∧ True ∧ True ∧ True ∧ True ∧ True ∧ True ∧ True ∧ True ∧ True ∧ True ∧ ((true == false) = false) ∧ True ∧ (true = true) ∧ True) ∧ True) (by kernel_rfl) (by kernel_rfl) (by kernel_rfl) ⟨⟨trivial, trivial, trivial, trivial, trivial, trivial, trivial, trivial, (by rw [show (decide (x64.c < 0)) = false from h66]; rfl), trivial, (by rw [show (decide (x64.c < 0)) = false from h66]; rfl), trivial, (by rw [show (decide (x64.c < 0)) = false from h66]; rfl), trivial, trivial, h66, trivial, trivial, (by rw [show (decide (x64.c ≥ 192)) = false from h69]; rfl), trivial, (by rw [show (decide (x64.c ≥ 192)) = false from h69]; rfl), trivial, (by rw [show (decide (x64.c ≥ 192)) = false from h69]; rfl), trivial, trivial, h69, trivial, trivial, (by rw [show (decide (x64.s < 1)) = true from h72]; rfl), (by rw [show (decide (x64.s < 1)) = true from h72]; rfl), (by rw [show (decide (x64.s < 1)) = true from h72]; rfl), trivial, h72, trivial, trivial, (by rw [show true = true from rfl]; rfl), (by rw [show true = true from rfl]; rfl), (by rw [show true = true from rfl]; rfl), trivial, trivial, trivial, trivial, trivial, trivial, trivial, trivial, trivial, trivial, (by rw [show true = true from rfl]; rfl), trivial, rfl, trivial⟩, trivial⟩ ?_
                              refine T_cond true (by kernel_rfl) (fun _ => ?_) (fun h => absurd (h.symm.trans rfl) (by decide))
                              refine T_reg [] [2] [1] (mk 105 [(2, (dt (I 380)))] []) (True ∧ True ∧ True) (by kernel_rfl) ⟨trivial, trivial, trivial⟩ ?_
                              refine T_ret ?_
                              exact ret_here [(dt (I 380))] (by kernel_rfl) (.inl (congrArg I (by first | exact chk_bad (by unfold headOK; simp only [decide_eq_true_eq, decide_eq_false_iff_not] at *; omega) | exact chk_bad2 (trOK_stop iv (by assumption) (by first | (simp only [decide_eq_true_eq, decide_eq_false_iff_not] at *; omega) | omega | (simp only [decide_eq_true_eq, decide_eq_false_iff_not] at *; by_cases hk : k = 0 <;> first | omega | (have := ip hk; omega)))) | exact chk_ok (by unfold headOK; simp only [decide_eq_true_eq, decide_eq_false_iff_not] at *; omega) (trOK_end iv (by omega)) : 380 = (chk f))))
                            · skip
                              have g74 : ¬ (x64.s < 1) := of_decide_eq_false (h72)
                              rcases Bool.eq_false_or_eq_true (decide (x64.s > 12)) with h75 | h75
                              · skip
                                have g76 : x64.s > 12 := of_decide_eq_true (h75)
                                refine T_regD 34 [{}, {}, {}, {}, {}, {}, {}, { d := some (B false) }, {}, {}, {}, {}, { d := some (B false) }, {}, {}, {}, {}, { d := some (B false) }, {}, { g := false }, { g := false }, { g := false }, {}, {}, {}, {}, {}, {}, {}, {}, {}, {}, { g := false }, { d := some (B true) }] [1, 3, 104] [4] (mk 105 [(1, (.one (.ref 1 0))), (3, (dt (I ((k : Nat) : Int)))), (104, (dt (B true)))] [(1, (.var [(.dat (I f.a)), (.dat (I f.p)), (.dat (I f.m)), (.dat (I f.s)), (.dat (.sl 2 (f.t.map encTrain)))]))]) ((True ∧ True ∧ True ∧ True ∧ True ∧ True ∧ True ∧ True ∧ (((decide (x64.c < 0)) == false) = true) ∧ True ∧ (((decide (x64.c < 0)) == false) = true) ∧ True ∧ (((decide (x64.c < 0)) == false) = true) ∧ True ∧ True ∧ ((decide (x64.c < 0)) = false) ∧ True ∧ True ∧ (((decide (x64.c ≥ 192)) == false) = true) ∧ True ∧ (((decide (x64.c ≥ 192)) == false) = true) ∧ True ∧ (((decide (x64.c ≥ 192)) == false) = true) ∧ True ∧ True ∧ ((decide (x64.c ≥ 192)) = false) ∧ True ∧ True ∧ (((decide (x64.s < 1)) == false) = true) ∧ True ∧ (((decide (x64.s < 1)) == false) = true) ∧ True ∧ (((decide (x64.s < 1)) == false) = true) ∧ True ∧ True ∧ ((decide (x64.s < 1)) = false) ∧ True ∧ True ∧ (((decide (x64.s > 12)) == false) = false) ∧ (((decide (x64.s > 12)) == false) = false) ∧ (((decide (x64.s > 12)) == false) = false) ∧ True ∧ True ∧ True ∧ True ∧ True ∧ True ∧ True ∧ True ∧ True ∧ True ∧ (((decide (x64.s > 12)) == false) = false) ∧ True ∧ ((decide (x64.s > 12)) = true) ∧ True) ∧ True) (by kernel_rfl) (by kernel_rfl) (by kernel_rfl) ⟨⟨trivial, trivial, trivial, trivial, trivial, trivial, trivial, trivial, (by rw [show (decide (x64.c < 0)) = false from h66]; rfl), trivial, (by rw [show (decide (x64.c < 0)) = false from h66]; rfl), trivial, (by rw [show (decide (x64.c < 0)) = false from h66]; rfl), trivial, trivial, h66, trivial, trivial, (by rw [show (decide (x64.c ≥ 192)) = false from h69]; rfl), trivial, (by rw [show (decide (x64.c ≥ 192)) = false from h69]; rfl), trivial, (by rw [show (decide (x64.c ≥ 192)) = false from h69]; rfl), trivial, trivial, h69, trivial, trivial, (by rw [show (decide (x64.s < 1)) = false from h72]; rfl), trivial, (by rw [show (decide (x64.s < 1)) = false from h72]; rfl), trivial, (by rw [show (decide (x64.s < 1)) = false from h72]; rfl), trivial, trivial, h72, trivial, trivial, (by rw [show (decide (x64.s > 12)) = true from h75]; rfl), (by rw [show (decide (x64.s > 12)) = true from h75]; rfl), (by rw [show (decide (x64.s > 12)) = true from h75]; rfl), trivial, trivial, trivial, trivial, trivial, trivial, trivial, trivial, trivial, trivial, (by rw [show (decide (x64.s > 12)) = true from h75]; rfl), trivial, h75, trivial⟩, trivial⟩ ?_
                                refine T_cond true (by kernel_rfl) (fun _ => ?_) (fun h => absurd (h.symm.trans rfl) (by decide))
                                refine T_reg [] [2] [1] (mk 105 [(2, (dt (I 380)))] []) (True ∧ True ∧ True) (by kernel_rfl) ⟨trivial, trivial, trivial⟩ ?_
                                refine T_ret ?_
                                exact ret_here [(dt (I 380))] (by kernel_rfl) (.inl (congrArg I (by first | exact chk_bad (by unfold headOK; simp only [decide_eq_true_eq, decide_eq_false_iff_not] at *; omega) | exact chk_bad2 (trOK_stop iv (by assumption) (by first | (simp only [decide_eq_true_eq, decide_eq_false_iff_not] at *; omega) | omega | (simp only [decide_eq_true_eq, decide_eq_false_iff_not] at *; by_cases hk : k = 0 <;> first | omega | (have := ip hk; omega)))) | exact chk_ok (by unfold headOK; simp only [decide_eq_true_eq, decide_eq_false_iff_not] at *; omega) (trOK_end iv (by omega)) : 380 = (chk f))))
                              · skip
                                have g77 : ¬ (x64.s > 12) := of_decide_eq_false (h75)
                                rcases Bool.eq_false_or_eq_true (decide (((k : Nat) : Int) > 0)) with h78 | h78
                                · skip
                                  have g79 : ((k : Nat) : Int) > 0 := of_decide_eq_true (h78)
                                  refine T_regD 34 [{}, {}, {}, {}, {}, {}, {}, { d := some (B false) }, {}, {}, {}, {}, { d := some (B false) }, {}, {}, {}, {}, { d := some (B false) }, {}, {}, {}, {}, {}, {}, {}, {}, {}, { d := some (I (((k : Nat) : Int) - 1)) }, { d := some (.agg [(I e.c), (I e.s)]) }, {}, {}, {}, { d := some (B true) }, { d := some (B false) }] [1, 3, 104] [4] (mk 105 [(1, (.one (.ref 1 0))), (3, (dt (I ((k : Nat) : Int)))), (104, (dt (B (decide (x64.c ≤ e.c)))))] [(1, (.var [(.dat (I f.a)), (.dat (I f.p)), (.dat (I f.m)), (.dat (I f.s)), (.dat (.sl 2 (f.t.map encTrain)))]))]) ((True ∧ True ∧ True ∧ True ∧ True ∧ True ∧ True ∧ True ∧ (((decide (x64.c < 0)) == false) = true) ∧ True ∧ (((decide (x64.c < 0)) == false) = true) ∧ True ∧ (((decide (x64.c < 0)) == false) = true) ∧ True ∧ True ∧ ((decide (x64.c < 0)) = false) ∧ True ∧ True ∧ (((decide (x64.c ≥ 192)) == false) = true) ∧ True ∧ (((decide (x64.c ≥ 192)) == false) = true) ∧ True ∧ (((decide (x64.c ≥ 192)) == false) = true) ∧ True ∧ True ∧ ((decide (x64.c ≥ 192)) = false) ∧ True ∧ True ∧ (((decide (x64.s < 1)) == false) = true) ∧ True ∧ (((decide (x64.s < 1)) == false) = true) ∧ True ∧ (((decide (x64.s < 1)) == false) = true) ∧ True ∧ True ∧ ((decide (x64.s < 1)) = false) ∧ True ∧ True ∧ (((decide (x64.s > 12)) == false) = true) ∧ True ∧ (((decide (x64.s > 12)) == false) = true) ∧ True ∧ (((decide (x64.s > 12)) == false) = true) ∧ True ∧ (((decide (((k : Nat) : Int) > 0)) == true) = true) ∧ True ∧ (((decide (((k : Nat) : Int) > 0)) == true) = true) ∧ True ∧ (((decide (((k : Nat) : Int) > 0)) == true) = true) ∧ True ∧ (((decide (((k : Nat) : Int) > 0)) == true) = true) ∧ True ∧ (((decide (((k : Nat) : Int) > 0)) == true) = true) ∧ True ∧ (((decide (((k : Nat) : Int) > 0)) == true) = true) ∧ (IntKind.i64.wrap (((k : Nat) : Int) - 1) = (((k : Nat) : Int) - 1)) ∧ (((decide (((k : Nat) : Int) > 0)) == true) = true) ∧ (0 ≤ (((k : Nat) : Int) - 1) ∧ (f.t.map encTrain)[((((k : Nat) : Int) - 1)).toNat]? = some (.agg [(I e.c), (I e.s)])) ∧ (((decide (((k : Nat) : Int) > 0)) == true) = true) ∧ True ∧ (((decide (((k : Nat) : Int) > 0)) == true) = true) ∧ True ∧ (((decide (((k : Nat) : Int) > 0)) == true) = true) ∧ True ∧ (((decide (x64.s > 12)) == false) = true) ∧ ((decide (((k : Nat) : Int) > 0)) = true) ∧ True ∧ ((decide (x64.s > 12)) = false) ∧ True) ∧ True) (by kernel_rfl) (by kernel_rfl) (by kernel_rfl) ⟨⟨trivial, trivial, trivial, trivial, trivial, trivial, trivial, trivial, (by rw [show (decide (x64.c < 0)) = false from h66]; rfl), trivial, (by rw [show (decide (x64.c < 0)) = false from h66]; rfl), trivial, (by rw [show (decide (x64.c < 0)) = false from h66]; rfl), trivial, trivial, h66, trivial, trivial, (by rw [show (decide (x64.c ≥ 192)) = false from h69]; rfl), trivial, (by rw [show (decide (x64.c ≥ 192)) = false from h69]; rfl), trivial, (by rw [show (decide (x64.c ≥ 192)) = false from h69]; rfl), trivial, trivial, h69, trivial, trivial, (by rw [show (decide (x64.s < 1)) = false from h72]; rfl), trivial, (by rw [show (decide (x64.s < 1)) = false from h72]; rfl), trivial, (by rw [show (decide (x64.s < 1)) = false from h72]; rfl), trivial, trivial, h72, trivial, trivial, (by rw [show (decide (x64.s > 12)) = false from h75]; rfl), trivial, (by rw [show (decide (x64.s > 12)) = false from h75]; rfl), trivial, (by rw [show (decide (x64.s > 12)) = false from h75]; rfl), trivial, (by rw [show (decide (((k : Nat) : Int) > 0)) = true from h78]; rfl), trivial, (by rw [show (decide (((k : Nat) : Int) > 0)) = true from h78]; rfl), trivial, (by rw [show (decide (((k : Nat) : Int) > 0)) = true from h78]; rfl), trivial, (by rw [show (decide (((k : Nat) : Int) > 0)) = true from h78]; rfl), trivial, (by rw [show (decide (((k : Nat) : Int) > 0)) = true from h78]; rfl), trivial, (by rw [show (decide (((k : Nat) : Int) > 0)) = true from h78]; rfl), (i64_wrap (by omega) (by omega)), (by rw [show (decide (((k : Nat) : Int) > 0)) = true from h78]; rfl), ⟨by omega, by rw [show ((((k : Nat) : Int) - 1)).toNat = k - 1 from by omega]; rw [List.getElem?_map, (ip2 (by omega))]; rfl⟩, (by rw [show (decide (((k : Nat) : Int) > 0)) = true from h78]; rfl), trivial, (by rw [show (decide (((k : Nat) : Int) > 0)) = true from h78]; rfl), trivial, (by rw [show (decide (((k : Nat) : Int) > 0)) = true from h78]; rfl), trivial, (by rw [show (decide (x64.s > 12)) = false from h75]; rfl), h78, trivial, h75, trivial⟩, trivial⟩ ?_
                                  refine T_cond (decide (x64.c ≤ e.c)) (by kernel_rfl) (fun h80 => ?_) (fun h80 => ?_)
                                  · skip
                                    have g81 : x64.c ≤ e.c := of_decide_eq_true (h80)
                                    refine T_reg [] [2] [1] (mk 105 [(2, (dt (I 380)))] []) (True ∧ True ∧ True) (by kernel_rfl) ⟨trivial, trivial, trivial⟩ ?_
                                    refine T_ret ?_
                                    exact ret_here [(dt (I 380))] (by kernel_rfl) (.inl (congrArg I (by first | exact chk_bad (by unfold headOK; simp only [decide_eq_true_eq, decide_eq_false_iff_not] at *; omega) | exact chk_bad2 (trOK_stop iv (by assumption) (by first | (simp only [decide_eq_true_eq, decide_eq_false_iff_not] at *; omega) | omega | (simp only [decide_eq_true_eq, decide_eq_false_iff_not] at *; by_cases hk : k = 0 <;> first | omega | (have := ip hk; omega)))) | exact chk_ok (by unfold headOK; simp only [decide_eq_true_eq, decide_eq_false_iff_not] at *; omega) (trOK_end iv (by omega)) : 380 = (chk f))))
                                  · skip
                                    have g82 : ¬ (x64.c ≤ e.c) := of_decide_eq_false (h80)
                                    refine T_skip ?_
                                    refine T_regE [{}, { d := some (I ((k + 1 : Nat) : Int)) }] (mk 105 [(1, (.one (.ref 1 0))), (3, (dt (I ((k + 1 : Nat) : Int)))), (64, (dt (I ((k : Nat) : Int)))), (65, (dt (I ((k + 1 : Nat) : Int)))), (104, (dt (B (decide (x64.c ≤ e.c)))))] [(1, (.var [(.dat (I f.a)), (.dat (I f.p)), (.dat (I f.m)), (.dat (I f.s)), (.dat (.sl 2 (f.t.map encTrain)))]))]) (True ∧ True ∧ True ∧ (IntKind.i64.wrap (((k : Nat) : Int) + 1) = ((k + 1 : Nat) : Int)) ∧ True ∧ True ∧ True) (by kernel_rfl) ⟨trivial, trivial, trivial, (by rw [i64_wrap (by omega) (by omega)]; omega), trivial, trivial, trivial⟩ ?_
                                    refine Exists.intro (k + 1, x64) ⟨⟨by omega, trOK_step iv hx65 (by first | (simp only [decide_eq_true_eq, decide_eq_false_iff_not] at *; omega) | omega | (simp only [decide_eq_true_eq, decide_eq_false_iff_not] at *; by_cases hk : k = 0 <;> first | omega | (have := ip hk; omega))), fun h => by omega, fun _ => by simpa using hx65, trivial⟩, by first | omega | (dsimp only; omega), le_turn [] [1, 3] [] (by kernel_rfl)⟩
                                · skip
                                  have g83 : ¬ (((k : Nat) : Int) > 0) := of_decide_eq_false (h78)
                                  refine T_regD 34 [{}, {}, {}, {}, {}, {}, {}, { d := some (B false) }, {}, {}, {}, {}, { d := some (B false) }, {}, {}, {}, {}, { d := some (B false) }, {}, {}, {}, {}, { g := false }, { g := false }, { g := false }, { g := false }, { g := false }, { g := false }, { g := false }, { g := false }, { g := false }, { g := false }, { d := some (B false) }, { d := some (B false) }] [1, 3, 104] [4] (mk 105 [(1, (.one (.ref 1 0))), (3, (dt (I ((k : Nat) : Int)))), (104, (dt (B false)))] [(1, (.var [(.dat (I f.a)), (.dat (I f.p)), (.dat (I f.m)), (.dat (I f.s)), (.dat (.sl 2 (f.t.map encTrain)))]))]) ((True ∧ True ∧ True ∧ True ∧ True ∧ True ∧ True ∧ True ∧ (((decide (x64.c < 0)) == false) = true) ∧ True ∧ (((decide (x64.c < 0)) == false) = true) ∧ True ∧ (((decide (x64.c < 0)) == false) = true) ∧ True ∧ True ∧ ((decide (x64.c < 0)) = false) ∧ True ∧ True ∧ (((decide (x64.c ≥ 192)) == false) = true) ∧ True ∧ (((decide (x64.c ≥ 192)) == false) = true) ∧ True ∧ (((decide (x64.c ≥ 192)) == false) = true) ∧ True ∧ True ∧ ((decide (x64.c ≥ 192)) = false) ∧ True ∧ True ∧ (((decide (x64.s < 1)) == false) = true) ∧ True ∧ (((decide (x64.s < 1)) == false) = true) ∧ True ∧ (((decide (x64.s < 1)) == false) = true) ∧ True ∧ True ∧ ((decide (x64.s < 1)) = false) ∧ True ∧ True ∧ (((decide (x64.s > 12)) == false) = true) ∧ True ∧ (((decide (x64.s > 12)) == false) = true) ∧ True ∧ (((decide (x64.s > 12)) == false) = true) ∧ True ∧ (((decide (((k : Nat) : Int) > 0)) == true) = false) ∧ (((decide (((k : Nat) : Int) > 0)) == true) = false) ∧ (((decide (((k : Nat) : Int) > 0)) == true) = false) ∧ (((decide (((k : Nat) : Int) > 0)) == true) = false) ∧ (((decide (((k : Nat) : Int) > 0)) == true) = false) ∧ (((decide (((k : Nat) : Int) > 0)) == true) = false) ∧ (((decide (((k : Nat) : Int) > 0)) == true) = false) ∧ (((decide (((k : Nat) : Int) > 0)) == true) = false) ∧ (((decide (((k : Nat) : Int) > 0)) == true) = false) ∧ (((decide (((k : Nat) : Int) > 0)) == true) = false) ∧ (((decide (x64.s > 12)) == false) = true) ∧ ((decide (((k : Nat) : Int) > 0)) = false) ∧ True ∧ ((decide (x64.s > 12)) = false) ∧ True) ∧ True) (by kernel_rfl) (by kernel_rfl) (by kernel_rfl) ⟨⟨trivial, trivial, trivial, trivial, trivial, trivial, trivial, trivial, (by rw [show (decide (x64.c < 0)) = false from h66]; rfl), trivial, (by rw [show (decide (x64.c < 0)) = false from h66]; rfl), trivial, (by rw [show (decide (x64.c < 0)) = false from h66]; rfl), trivial, trivial, h66, trivial, trivial, (by rw [show (decide (x64.c ≥ 192)) = false from h69]; rfl), trivial, (by rw [show (decide (x64.c ≥ 192)) = false from h69]; rfl), trivial, (by rw [show (decide (x64.c ≥ 192)) = false from h69]; rfl), trivial, trivial, h69, trivial, trivial, (by rw [show (decide (x64.s < 1)) = false from h72]; rfl), trivial, (by rw [show (decide (x64.s < 1)) = false from h72]; rfl), trivial, (by rw [show (decide (x64.s < 1)) = false from h72]; rfl), trivial, trivial, h72, trivial, trivial, (by rw [show (decide (x64.s > 12)) = false from h75]; rfl), trivial, (by rw [show (decide (x64.s > 12)) = false from h75]; rfl), trivial, (by rw [show (decide (x64.s > 12)) = false from h75]; rfl), trivial, (by rw [show (decide (((k : Nat) : Int) > 0)) = false from h78]; rfl), (by rw [show (decide (((k : Nat) : Int) > 0)) = false from h78]; rfl), (by rw [show (decide (((k : Nat) : Int) > 0)) = false from h78]; rfl), (by rw [show (decide (((k : Nat) : Int) > 0)) = false from h78]; rfl), (by rw [show (decide (((k : Nat) : Int) > 0)) = false from h78]; rfl), (by rw [show (decide (((k : Nat) : Int) > 0)) = false from h78]; rfl), (by rw [show (decide (((k : Nat) : Int) > 0)) = false from h78]; rfl), (by rw [show (decide (((k : Nat) : Int) > 0)) = false from h78]; rfl), (by rw [show (decide (((k : Nat) : Int) > 0)) = false from h78]; rfl), (by rw [show (decide (((k : Nat) : Int) > 0)) = false from h78]; rfl), (by rw [show (decide (x64.s > 12)) = false from h75]; rfl), h78, trivial, h75, trivial⟩, trivial⟩ ?_
                                  refine T_cond false (by kernel_rfl) (fun h => absurd (h.symm.trans rfl) (by decide)) (fun _ => ?_)
                                  refine T_skip ?_
                                  refine T_regE [{}, { d := some (I ((k + 1 : Nat) : Int)) }] (mk 105 [(1, (.one (.ref 1 0))), (3, (dt (I ((k + 1 : Nat) : Int)))), (64, (dt (I ((k : Nat) : Int)))), (65, (dt (I ((k + 1 : Nat) : Int)))), (104, (dt (B false)))] [(1, (.var [(.dat (I f.a)), (.dat (I f.p)), (.dat (I f.m)), (.dat (I f.s)), (.dat (.sl 2 (f.t.map encTrain)))]))]) (True ∧ True ∧ True ∧ (IntKind.i64.wrap (((k : Nat) : Int) + 1) = ((k + 1 : Nat) : Int)) ∧ True ∧ True ∧ True) (by kernel_rfl) ⟨trivial, trivial, trivial, (by rw [i64_wrap (by omega) (by omega)]; omega), trivial, trivial, trivial⟩ ?_
                                  refine Exists.intro (k + 1, x64) ⟨⟨by omega, trOK_step iv hx65 (by first | (simp only [decide_eq_true_eq, decide_eq_false_iff_not] at *; omega) | omega | (simp only [decide_eq_true_eq, decide_eq_false_iff_not] at *; by_cases hk : k = 0 <;> first | omega | (have := ip hk; omega))), fun h => by omega, fun _ => by simpa using hx65, trivial⟩, by first | omega | (dsimp only; omega), le_turn [] [1, 3] [] (by kernel_rfl)⟩
                      · skip
                        have g84 : ¬ (((k : Nat) : Int) < ((f.t.length : Nat) : Int)) := of_decide_eq_false (h61)
                        refine T_exit ?_
                        refine T_reg [] [2] [1] (mk 105 [(2, (dt (I 0)))] []) (True ∧ True ∧ True) (by kernel_rfl) ⟨trivial, trivial, trivial⟩ ?_
                        refine T_ret ?_
                        exact ret_here [(dt (I 0))] (by kernel_rfl) (.inl (congrArg I (by first | exact chk_bad (by unfold headOK; simp only [decide_eq_true_eq, decide_eq_false_iff_not] at *; omega) | exact chk_bad2 (trOK_stop iv (by assumption) (by first | (simp only [decide_eq_true_eq, decide_eq_false_iff_not] at *; omega) | omega | (simp only [decide_eq_true_eq, decide_eq_false_iff_not] at *; by_cases hk : k = 0 <;> first | omega | (have := ip hk; omega)))) | exact chk_ok (by unfold headOK; simp only [decide_eq_true_eq, decide_eq_false_iff_not] at *; omega) (trOK_end iv (by omega)) : 0 = (chk f))))

theorem ret_solid (f : Fee) (ht : f.t.length ≤ 140737488355328) : Ret Try.prog 26 [(.agg [(I f.a), (I f.p), (I f.m), (I f.s), (.sl 2 (f.t.map encTrain))])] (I (solid f)) := by
  refine Ret.of_T Try.func26 (by kernel_rfl) rfl ?_
  refine T_turn [] [0] [] (mk 16 [(0, (.agg [(.dat (I f.a)), (.dat (I f.p)), (.dat (I f.m)), (.dat (I f.s)), (.dat (.sl 2 (f.t.map encTrain)))]))] []) (by kernel_rfl) ?_
  refine T_reg [] [1] [] (mk 16 [(1, (.one (.ref 1 0)))] [(1, (.var [(.dat (I f.a)), (.dat (I f.p)), (.dat (I f.m)), (.dat (I f.s)), (.dat (.sl 2 (f.t.map encTrain)))]))]) (True ∧ True ∧ True ∧ True ∧ True) (by kernel_rfl) ⟨trivial, trivial, trivial, trivial, trivial⟩ ?_
  refine T_seq ?_
  refine T_reg [{}, {}, { d := some (I ((f.t.length : Nat) : Int)) }] [1, 8] [] (mk 16 [(1, (.one (.ref 1 0))), (8, (dt (B (((f.t.length : Nat) : Int) == 0))))] [(1, (.var [(.dat (I f.a)), (.dat (I f.p)), (.dat (I f.m)), (.dat (I f.s)), (.dat (.sl 2 (f.t.map encTrain)))]))]) (True ∧ True ∧ True ∧ True ∧ True ∧ (True ∧ D.int .i64 ((f.t.map encTrain).length : Int) = (I ((f.t.length : Nat) : Int))) ∧ True ∧ True ∧ True) (by kernel_rfl) ⟨trivial, trivial, trivial, trivial, trivial, ⟨trivial, by rw [List.length_map]⟩, trivial, trivial, trivial⟩ ?_
  refine T_cond (((f.t.length : Nat) : Int) == 0) (by kernel_rfl) (fun h1 => ?_) (fun h1 => ?_)
  · skip
    have g2 : ((f.t.length : Nat) : Int) = 0 := eq_of_beq (h1)
    refine T_reg [] [2] [1] (mk 16 [(2, (dt (I 0)))] []) (True ∧ True ∧ True) (by kernel_rfl) ⟨trivial, trivial, trivial⟩ ?_
    refine T_ret ?_
    exact ret_here [(dt (I 0))] (by kernel_rfl) (.inl (congrArg I (by first | (rw [solid, if_pos (by omega)]; done) | (rw [solid, if_neg (by omega)]; done) : 0 = (solid f))))
  · skip
    have g3 : ((f.t.length : Nat) : Int) ≠ 0 := ne_of_beq_false (h1)
    refine T_skip ?_
    refine T_reg [{}, {}, { d := some (.tup [(I (partM f.a 50).1), (I (partM f.a 50).2)]) }] [3] [1] (mk 16 [(3, (dt (I (partM f.a 50).1)))] []) (True ∧ True ∧ True ∧ True ∧ True ∧ (Ret Try.prog 22 [(I f.a), (I 50)] (.tup [(I (partM f.a 50).1), (I (partM f.a 50).2)])) ∧ True ∧ True ∧ True ∧ True ∧ True ∧ True ∧ True ∧ True ∧ True ∧ True ∧ True) (by kernel_rfl) ⟨trivial, trivial, trivial, trivial, trivial, (ret_partM _ _), trivial, trivial, trivial, trivial, trivial, trivial, trivial, trivial, trivial, trivial, trivial⟩ ?_
    refine T_reg [] [2] [] (mk 16 [(2, (dt (I (partM f.a 50).1)))] []) (True ∧ True ∧ True ∧ True ∧ True) (by kernel_rfl) ⟨trivial, trivial, trivial, trivial, trivial⟩ ?_
    refine T_ret ?_
    exact ret_here [(dt (I (partM f.a 50).1))] (by kernel_rfl) (.inl (congrArg I (by first | (rw [solid, if_pos (by omega)]; done) | (rw [solid, if_neg (by omega)]; done) : (partM f.a 50).1 = (solid f))))

theorem ret_solidR (f : Fee) (ht : f.t.length ≤ 140737488355328) : Ret Try.prog 28 [(.agg [(I f.a), (I f.p), (I f.m), (I f.s), (.sl 2 (f.t.map encTrain))])] (I (solid f)) := by
  refine Ret.of_T Try.func28 (by kernel_rfl) rfl ?_
  refine T_turn [] [0] [] (mk 16 [(0, (.agg [(.dat (I f.a)), (.dat (I f.p)), (.dat (I f.m)), (.dat (I f.s)), (.dat (.sl 2 (f.t.map encTrain)))]))] []) (by kernel_rfl) ?_
  refine T_reg [] [1] [] (mk 16 [(1, (.one (.ref 1 0)))] [(1, (.var [(.dat (I f.a)), (.dat (I f.p)), (.dat (I f.m)), (.dat (I f.s)), (.dat (.sl 2 (f.t.map encTrain)))]))]) (True ∧ True ∧ True ∧ True ∧ True) (by kernel_rfl) ⟨trivial, trivial, trivial, trivial, trivial⟩ ?_
  refine T_seq ?_
  refine T_reg [{}, {}, { d := some (I ((f.t.length : Nat) : Int)) }] [1, 8] [] (mk 16 [(1, (.one (.ref 1 0))), (8, (dt (B (((f.t.length : Nat) : Int) == 0))))] [(1, (.var [(.dat (I f.a)), (.dat (I f.p)), (.dat (I f.m)), (.dat (I f.s)), (.dat (.sl 2 (f.t.map encTrain)))]))]) (True ∧ True ∧ True ∧ True ∧ True ∧ (True ∧ D.int .i64 ((f.t.map encTrain).length : Int) = (I ((f.t.length : Nat) : Int))) ∧ True ∧ True ∧ True) (by kernel_rfl) ⟨trivial, trivial, trivial, trivial, trivial, ⟨trivial, by rw [List.length_map]⟩, trivial, trivial, trivial⟩ ?_
  refine T_cond (((f.t.length : Nat) : Int) == 0) (by kernel_rfl) (fun h1 => ?_) (fun h1 => ?_)
  · skip
    have g2 : ((f.t.length : Nat) : Int) = 0 := eq_of_beq (h1)
    refine T_reg [] [2] [1] (mk 16 [(2, (dt (I 0)))] []) (True ∧ True ∧ True) (by kernel_rfl) ⟨trivial, trivial, trivial⟩ ?_
    refine T_ret ?_
    exact ret_here [(dt (I 0))] (by kernel_rfl) (.inl (congrArg I (by first | (rw [solid, if_pos (by omega)]; done) | (rw [solid, if_neg (by omega)]; done) : 0 = (solid f))))
  · skip
    have g3 : ((f.t.length : Nat) : Int) ≠ 0 := ne_of_beq_false (h1)
    refine T_skip ?_
    refine T_reg [{}, {}, { d := some (.tup [(I (partM f.a 50).1), (I (partM f.a 50).2)]) }] [3] [1] (mk 16 [(3, (dt (I (partM f.a 50).1)))] []) (True ∧ True ∧ True ∧ True ∧ True ∧ (Ret Try.prog 29 [(I f.a), (I 50)] (.tup [(I (partM f.a 50).1), (I (partM f.a 50).2)])) ∧ True ∧ True ∧ True ∧ True ∧ True ∧ True ∧ True ∧ True ∧ True ∧ True ∧ True) (by kernel_rfl) ⟨trivial, trivial, trivial, trivial, trivial, (ret_partMR _ _), trivial, trivial, trivial, trivial, trivial, trivial, trivial, trivial, trivial, trivial, trivial⟩ ?_
    refine T_reg [] [2] [] (mk 16 [(2, (dt (I (partM f.a 50).1)))] []) (True ∧ True ∧ True ∧ True ∧ True) (by kernel_rfl) ⟨trivial, trivial, trivial, trivial, trivial⟩ ?_
    refine T_ret ?_
    exact ret_here [(dt (I (partM f.a 50).1))] (by kernel_rfl) (.inl (congrArg I (by first | (rw [solid, if_pos (by omega)]; done) | (rw [solid, if_neg (by omega)]; done) : (partM f.a 50).1 = (solid f))))

theorem ret_few (f : Fee) (ht : f.t.length ≤ 140737488355328) : Ret Try.prog 11 [(.agg [(I f.a), (I f.p), (I f.m), (I f.s), (.sl 2 (f.t.map encTrain))])] (B (decide (f.t.length ≤ 60))) := by
  refine Ret.of_T Try.func11 (by kernel_rfl) rfl ?_
  refine T_turn [] [0] [] (mk 7 [(0, (.agg [(.dat (I f.a)), (.dat (I f.p)), (.dat (I f.m)), (.dat (I f.s)), (.dat (.sl 2 (f.t.map encTrain)))]))] []) (by kernel_rfl) ?_
  refine T_reg [] [1] [] (mk 7 [(1, (.one (.ref 1 0)))] [(1, (.var [(.dat (I f.a)), (.dat (I f.p)), (.dat (I f.m)), (.dat (I f.s)), (.dat (.sl 2 (f.t.map encTrain)))]))]) (True ∧ True ∧ True ∧ True ∧ True) (by kernel_rfl) ⟨trivial, trivial, trivial, trivial, trivial⟩ ?_
  refine T_reg [{}, {}, { d := some (I ((f.t.length : Nat) : Int)) }] [2] [1] (mk 7 [(2, (dt (B (decide (((f.t.length : Nat) : Int) ≤ 60)))))] []) (True ∧ True ∧ True ∧ True ∧ True ∧ (True ∧ D.int .i64 ((f.t.map encTrain).length : Int) = (I ((f.t.length : Nat) : Int))) ∧ True ∧ True ∧ True ∧ True ∧ True) (by kernel_rfl) ⟨trivial, trivial, trivial, trivial, trivial, ⟨trivial, by rw [List.length_map]⟩, trivial, trivial, trivial, trivial, trivial⟩ ?_
  refine T_ret ?_
  exact ret_here [(dt (B (decide (((f.t.length : Nat) : Int) ≤ 60))))] (by kernel_rfl) (.inl (congrArg B (by symm; simp only [decide_eq_true_eq, decide_eq_false_iff_not, decide_eq_decide]; omega : (decide (((f.t.length : Nat) : Int) ≤ 60)) = (decide (f.t.length ≤ 60)))))

theorem ret_profit (f : Fee) (ht : f.t.length ≤ 140737488355328) : Ret Try.prog 14 [(.agg [(I f.a), (I f.p), (I f.m), (I f.s), (.sl 2 (f.t.map encTrain))])] (.tup [(I (profit f).1), (I (profit f).2)]) := by
  have hc := chk_cases f
  refine Ret.of_T Try.func14 (by kernel_rfl) rfl ?_
  refine T_turn [] [0] [] (mk 29 [(0, (.agg [(.dat (I f.a)), (.dat (I f.p)), (.dat (I f.m)), (.dat (I f.s)), (.dat (.sl 2 (f.t.map encTrain)))]))] []) (by kernel_rfl) ?_
  refine T_reg [] [1] [] (mk 29 [(1, (.one (.ref 1 0)))] [(1, (.var [(.dat (I f.a)), (.dat (I f.p)), (.dat (I f.m)), (.dat (I f.s)), (.dat (.sl 2 (f.t.map encTrain)))]))]) (True ∧ True ∧ True ∧ True ∧ True ∧ True ∧ True) (by kernel_rfl) ⟨trivial, trivial, trivial, trivial, trivial, trivial, trivial⟩ ?_
  refine T_seq ?_
  refine T_reg [{}, { d := some (I (chk f)) }] [1, 4] [] (mk 29 [(1, (.one (.ref 1 0))), (4, (dt (I (chk f))))] [(1, (.var [(.dat (I f.a)), (.dat (I f.p)), (.dat (I f.m)), (.dat (I f.s)), (.dat (.sl 2 (f.t.map encTrain)))]))]) (True ∧ True ∧ True ∧ (Ret Try.prog 16 [(.agg [(I f.a), (I f.p), (I f.m), (I f.s), (.sl 2 (f.t.map encTrain))])] (I (chk f))) ∧ True ∧ True ∧ True) (by kernel_rfl) ⟨trivial, trivial, trivial, (ret_chk f ht), trivial, trivial, trivial⟩ ?_
  rcases Bool.eq_false_or_eq_true ((chk f) != 0) with h1 | h1
  · skip
    have g2 : (chk f) ≠ 0 := bne_iff_ne.1 (h1)
    refine T_reg [{}, {}, {}, { g := false }, { g := false }, { g := false }, { d := some (B true) }] [1, 4, 13] [] (mk 29 [(1, (.one (.ref 1 0))), (4, (dt (I (chk f)))), (13, (dt (B true)))] [(1, (.var [(.dat (I f.a)), (.dat (I f.p)), (.dat (I f.m)), (.dat (I f.s)), (.dat (.sl 2 (f.t.map encTrain)))]))]) (True ∧ True ∧ True ∧ True ∧ True ∧ True ∧ ((((chk f) != 0) == false) = false) ∧ ((((chk f) != 0) == false) = false) ∧ ((((chk f) != 0) == false) = false) ∧ True ∧ (((chk f) != 0) = true) ∧ True) (by kernel_rfl) ⟨trivial, trivial, trivial, trivial, trivial, trivial, (by rw [show ((chk f) != 0) = true from h1]; rfl), (by rw [show ((chk f) != 0) = true from h1]; rfl), (by rw [show ((chk f) != 0) = true from h1]; rfl), trivial, h1, trivial⟩ ?_
    refine T_cond true (by kernel_rfl) (fun _ => ?_) (fun h => absurd (h.symm.trans rfl) (by decide))
    refine T_reg [] [2, 3] [1] (mk 29 [(2, (dt (I 0))), (3, (dt (I (chk f))))] []) (True ∧ True ∧ True ∧ True ∧ True ∧ True ∧ True) (by kernel_rfl) ⟨trivial, trivial, trivial, trivial, trivial, trivial, trivial⟩ ?_
    refine T_ret ?_
    exact ret_here [(dt (I 0)), (dt (I (chk f)))] (by kernel_rfl) ⟨(.inl (congrArg I (by first | (rw [profit, if_pos (by omega)]; done) | (rw [profit, if_pos (by omega)]; show _ = chk f; omega; done) | (rw [profit, if_neg (by omega), if_pos (by have := solid_bounds f (by omega); omega)]; done) | (rw [profit, if_neg (by omega), if_pos (by have := solid_bounds f (by omega); omega)]; show _ = (0 : Int); omega; done) | (rw [profit, if_neg (by omega), if_neg (by omega)]; done) | (rw [profit, if_neg (by omega), if_neg (by omega), partM_two (by have := solid_bounds f (by omega); omega) (by have := solid_bounds f (by omega); omega) (by have := solid_bounds f (by omega); omega) (by have := solid_bounds f (by omega); omega)]; done) | (exact congrArg Prod.fst (profit_max (by omega) (by omega)); done) | (exact congrArg Prod.snd (profit_max (by omega) (by omega)); done) : 0 = (profit f).1))), (.inl (congrArg I (by first | (rw [profit, if_pos (by omega)]; done) | (rw [profit, if_pos (by omega)]; show _ = chk f; omega; done) | (rw [profit, if_neg (by omega), if_pos (by have := solid_bounds f (by omega); omega)]; done) | (rw [profit, if_neg (by omega), if_pos (by have := solid_bounds f (by omega); omega)]; show _ = (0 : Int); omega; done) | (rw [profit, if_neg (by omega), if_neg (by omega)]; done) | (rw [profit, if_neg (by omega), if_neg (by omega), partM_two (by have := solid_bounds f (by omega); omega) (by have := solid_bounds f (by omega); omega) (by have := solid_bounds f (by omega); omega) (by have := solid_bounds f (by omega); omega)]; done) | (exact congrArg Prod.fst (profit_max (by omega) (by omega)); done) | (exact congrArg Prod.snd (profit_max (by omega) (by omega)); done) : (chk f) = (profit f).2))), trivial⟩
  · skip
    have g3 : (chk f) = 0 := bne_f (h1)
    refine T_reg [{}, {}, {}, {}, {}, {}, { d := some (B false) }] [1, 4, 13] [] (mk 29 [(1, (.one (.ref 1 0))), (4, (dt (I (chk f)))), (13, (dt (B (f.m == (-1)))))] [(1, (.var [(.dat (I f.a)), (.dat (I f.p)), (.dat (I f.m)), (.dat (I f.s)), (.dat (.sl 2 (f.t.map encTrain)))]))]) (True ∧ True ∧ True ∧ True ∧ True ∧ True ∧ ((((chk f) != 0) == false) = true) ∧ True ∧ ((((chk f) != 0) == false) = true) ∧ True ∧ ((((chk f) != 0) == false) = true) ∧ True ∧ True ∧ (((chk f) != 0) = false) ∧ True) (by kernel_rfl) ⟨trivial, trivial, trivial, trivial, trivial, trivial, (by rw [show ((chk f) != 0) = false from h1]; rfl), trivial, (by rw [show ((chk f) != 0) = false from h1]; rfl), trivial, (by rw [show ((chk f) != 0) = false from h1]; rfl), trivial, trivial, h1, trivial⟩ ?_
    refine T_cond (f.m == (-1)) (by kernel_rfl) (fun h4 => ?_) (fun h4 => ?_)
    · skip
      have g5 : f.m = (-1) := eq_of_beq (h4)
      refine T_reg [] [2, 3] [1] (mk 29 [(2, (dt (I 0))), (3, (dt (I (chk f))))] []) (True ∧ True ∧ True ∧ True ∧ True ∧ True ∧ True) (by kernel_rfl) ⟨trivial, trivial, trivial, trivial, trivial, trivial, trivial⟩ ?_
      refine T_ret ?_
      exact ret_here [(dt (I 0)), (dt (I (chk f)))] (by kernel_rfl) ⟨(.inl (congrArg I (by first | (rw [profit, if_pos (by omega)]; done) | (rw [profit, if_pos (by omega)]; show _ = chk f; omega; done) | (rw [profit, if_neg (by omega), if_pos (by have := solid_bounds f (by omega); omega)]; done) | (rw [profit, if_neg (by omega), if_pos (by have := solid_bounds f (by omega); omega)]; show _ = (0 : Int); omega; done) | (rw [profit, if_neg (by omega), if_neg (by omega)]; done) | (rw [profit, if_neg (by omega), if_neg (by omega), partM_two (by have := solid_bounds f (by omega); omega) (by have := solid_bounds f (by omega); omega) (by have := solid_bounds f (by omega); omega) (by have := solid_bounds f (by omega); omega)]; done) | (exact congrArg Prod.fst (profit_max (by omega) (by omega)); done) | (exact congrArg Prod.snd (profit_max (by omega) (by omega)); done) : 0 = (profit f).1))), (.inl (congrArg I (by first | (rw [profit, if_pos (by omega)]; done) | (rw [profit, if_pos (by omega)]; show _ = chk f; omega; done) | (rw [profit, if_neg (by omega), if_pos (by have := solid_bounds f (by omega); omega)]; done) | (rw [profit, if_neg (by omega), if_pos (by have := solid_bounds f (by omega); omega)]; show _ = (0 : Int); omega; done) | (rw [profit, if_neg (by omega), if_neg (by omega)]; done) | (rw [profit, if_neg (by omega), if_neg (by omega), partM_two (by have := solid_bounds f (by omega); omega) (by have := solid_bounds f (by omega); omega) (by have := solid_bounds f (by omega); omega) (by have := solid_bounds f (by omega); omega)]; done) | (exact congrArg Prod.fst (profit_max (by omega) (by omega)); done) | (exact congrArg Prod.snd (profit_max (by omega) (by omega)); done) : (chk f) = (profit f).2))), trivial⟩
    · skip
      have g6 : f.m ≠ (-1) := ne_of_beq_false (h4)
      refine T_skip ?_
      refine T_regD 16 [{}, {}, {}, { d := some (I (solid f)) }, { d := some (I (f.a - (solid f))) }, {}, {}, { d := some (I ((f.a - (solid f)) - f.p)) }, {}, {}, {}, { d := some (.tup [(I (partM (if ((f.a - (solid f)) - f.p) > 0 then ((f.a - (solid f)) - f.p) else 0) f.s).1), (I (partM (if ((f.a - (solid f)) - f.p) > 0 then ((f.a - (solid f)) - f.p) else 0) f.s).2)]) }] [2, 3] [1] (mk 29 [(2, (dt (I (partM (if ((f.a - (solid f)) - f.p) > 0 then ((f.a - (solid f)) - f.p) else 0) f.s).1))), (3, (dt (I (partM (if ((f.a - (solid f)) - f.p) > 0 then ((f.a - (solid f)) - f.p) else 0) f.s).2)))] []) ((True ∧ True ∧ True ∧ True ∧ True ∧ True ∧ True ∧ (Ret Try.prog 26 [(.agg [(I f.a), (I f.p), (I f.m), (I f.s), (.sl 2 (f.t.map encTrain))])] (I (solid f))) ∧ True ∧ (IntKind.i64.wrap (f.a - (solid f)) = (f.a - (solid f))) ∧ True ∧ True ∧ True ∧ True ∧ True ∧ (IntKind.i64.wrap ((f.a - (solid f)) - f.p) = ((f.a - (solid f)) - f.p)) ∧ True ∧ True ∧ True ∧ True ∧ True ∧ True ∧ True ∧ (Ret Try.prog 22 [(I (if ((f.a - (solid f)) - f.p) > 0 then ((f.a - (solid f)) - f.p) else 0)), (I f.s)] (.tup [(I (partM (if ((f.a - (solid f)) - f.p) > 0 then ((f.a - (solid f)) - f.p) else 0) f.s).1), (I (partM (if ((f.a - (solid f)) - f.p) > 0 then ((f.a - (solid f)) - f.p) else 0) f.s).2)])) ∧ True ∧ True ∧ True ∧ True ∧ True ∧ True ∧ True ∧ True ∧ True) ∧ True) (by kernel_rfl) (by kernel_rfl) (by kernel_rfl) ⟨⟨trivial, trivial, trivial, trivial, trivial, trivial, trivial, (ret_solid f ht), trivial, (i64_wrap (by have := solid_bounds f (by omega); omega) (by have := solid_bounds f (by omega); omega)), trivial, trivial, trivial, trivial, trivial, (i64_wrap (by have := solid_bounds f (by omega); omega) (by have := solid_bounds f (by omega); omega)), trivial, trivial, trivial, trivial, trivial, trivial, trivial, (ret_partM _ _), trivial, trivial, trivial, trivial, trivial, trivial, trivial, trivial, trivial⟩, trivial⟩ ?_
      refine T_ret ?_
      exact ret_here [(dt (I (partM (if ((f.a - (solid f)) - f.p) > 0 then ((f.a - (solid f)) - f.p) else 0) f.s).1)), (dt (I (partM (if ((f.a - (solid f)) - f.p) > 0 then ((f.a - (solid f)) - f.p) else 0) f.s).2))] (by kernel_rfl) ⟨(.inl (congrArg I (by first | (rw [profit, if_pos (by omega)]; done) | (rw [profit, if_pos (by omega)]; show _ = chk f; omega; done) | (rw [profit, if_neg (by omega), if_pos (by have := solid_bounds f (by omega); omega)]; done) | (rw [profit, if_neg (by omega), if_pos (by have := solid_bounds f (by omega); omega)]; show _ = (0 : Int); omega; done) | (rw [profit, if_neg (by omega), if_neg (by omega)]; done) | (rw [profit, if_neg (by omega), if_neg (by omega), partM_two (by have := solid_bounds f (by omega); omega) (by have := solid_bounds f (by omega); omega) (by have := solid_bounds f (by omega); omega) (by have := solid_bounds f (by omega); omega)]; done) | (exact congrArg Prod.fst (profit_max (by omega) (by omega)); done) | (exact congrArg Prod.snd (profit_max (by omega) (by omega)); done) : (partM (if ((f.a - (solid f)) - f.p) > 0 then ((f.a - (solid f)) - f.p) else 0) f.s).1 = (profit f).1))), (.inl (congrArg I (by first | (rw [profit, if_pos (by omega)]; done) | (rw [profit, if_pos (by omega)]; show _ = chk f; omega; done) | (rw [profit, if_neg (by omega), if_pos (by have := solid_bounds f (by omega); omega)]; done) | (rw [profit, if_neg (by omega), if_pos (by have := solid_bounds f (by omega); omega)]; show _ = (0 : Int); omega; done) | (rw [profit, if_neg (by omega), if_neg (by omega)]; done) | (rw [profit, if_neg (by omega), if_neg (by omega), partM_two (by have := solid_bounds f (by omega); omega) (by have := solid_bounds f (by omega); omega) (by have := solid_bounds f (by omega); omega) (by have := solid_bounds f (by omega); omega)]; done) | (exact congrArg Prod.fst (profit_max (by omega) (by omega)); done) | (exact congrArg Prod.snd (profit_max (by omega) (by omega)); done) : (partM (if ((f.a - (solid f)) - f.p) > 0 then ((f.a - (solid f)) - f.p) else 0) f.s).2 = (profit f).2))), trivial⟩

theorem ret_profitR (f : Fee) (ht : f.t.length ≤ 140737488355328) : Ret Try.prog 15 [(.agg [(I f.a), (I f.p), (I f.m), (I f.s), (.sl 2 (f.t.map encTrain))])] (.tup [(I (profit f).1), (I (profit f).2)]) := by
  have hc := chk_cases f
  refine Ret.of_T Try.func15 (by kernel_rfl) rfl ?_
  refine T_turn [] [0] [] (mk 33 [(0, (.agg [(.dat (I f.a)), (.dat (I f.p)), (.dat (I f.m)), (.dat (I f.s)), (.dat (.sl 2 (f.t.map encTrain)))]))] []) (by kernel_rfl) ?_
  refine T_reg [] [1] [] (mk 33 [(1, (.one (.ref 1 0)))] [(1, (.var [(.dat (I f.a)), (.dat (I f.p)), (.dat (I f.m)), (.dat (I f.s)), (.dat (.sl 2 (f.t.map encTrain)))]))]) (True ∧ True ∧ True ∧ True ∧ True ∧ True ∧ True) (by kernel_rfl) ⟨trivial, trivial, trivial, trivial, trivial, trivial, trivial⟩ ?_
  refine T_seq ?_
  refine T_reg [{}, { d := some (I (chk f)) }] [1, 9] [] (mk 33 [(1, (.one (.ref 1 0))), (9, (dt (B ((chk f) != 0))))] [(1, (.var [(.dat (I f.a)), (.dat (I f.p)), (.dat (I f.m)), (.dat (I f.s)), (.dat (.sl 2 (f.t.map encTrain)))]))]) (True ∧ True ∧ True ∧ (Ret Try.prog 17 [(.agg [(I f.a), (I f.p), (I f.m), (I f.s), (.sl 2 (f.t.map encTrain))])] (I (chk f))) ∧ True ∧ True ∧ True) (by kernel_rfl) ⟨trivial, trivial, trivial, (ret_chkR f ht), trivial, trivial, trivial⟩ ?_
  refine T_cond ((chk f) != 0) (by kernel_rfl) (fun h1 => ?_) (fun h1 => ?_)
  · skip
    have g2 : (chk f) ≠ 0 := bne_iff_ne.1 (h1)
    refine T_reg [] [2, 3] [1] (mk 33 [(2, (dt (I 0))), (3, (dt (I 380)))] []) (True ∧ True ∧ True ∧ True ∧ True) (by kernel_rfl) ⟨trivial, trivial, trivial, trivial, trivial⟩ ?_
    refine T_ret ?_
    exact ret_here [(dt (I 0)), (dt (I 380))] (by kernel_rfl) ⟨(.inl (congrArg I (by first | (rw [profit, if_pos (by omega)]; done) | (rw [profit, if_pos (by omega)]; show _ = chk f; omega; done) | (rw [profit, if_neg (by omega), if_pos (by have := solid_bounds f (by omega); omega)]; done) | (rw [profit, if_neg (by omega), if_pos (by have := solid_bounds f (by omega); omega)]; show _ = (0 : Int); omega; done) | (rw [profit, if_neg (by omega), if_neg (by omega)]; done) | (rw [profit, if_neg (by omega), if_neg (by omega), partM_two (by have := solid_bounds f (by omega); omega) (by have := solid_bounds f (by omega); omega) (by have := solid_bounds f (by omega); omega) (by have := solid_bounds f (by omega); omega)]; done) | (exact congrArg Prod.fst (profit_max (by omega) (by omega)); done) | (exact congrArg Prod.snd (profit_max (by omega) (by omega)); done) : 0 = (profit f).1))), (.inl (congrArg I (by first | (rw [profit, if_pos (by omega)]; done) | (rw [profit, if_pos (by omega)]; show _ = chk f; omega; done) | (rw [profit, if_neg (by omega), if_pos (by have := solid_bounds f (by omega); omega)]; done) | (rw [profit, if_neg (by omega), if_pos (by have := solid_bounds f (by omega); omega)]; show _ = (0 : Int); omega; done) | (rw [profit, if_neg (by omega), if_neg (by omega)]; done) | (rw [profit, if_neg (by omega), if_neg (by omega), partM_two (by have := solid_bounds f (by omega); omega) (by have := solid_bounds f (by omega); omega) (by have := solid_bounds f (by omega); omega) (by have := solid_bounds f (by omega); omega)]; done) | (exact congrArg Prod.fst (profit_max (by omega) (by omega)); done) | (exact congrArg Prod.snd (profit_max (by omega) (by omega)); done) : 380 = (profit f).2))), trivial⟩
  · skip
    have g3 : (chk f) = 0 := bne_f (h1)
    refine T_skip ?_
    refine T_regD 9 [{}, {}, {}, { d := some (I (solid f)) }, { d := some (I (f.a - (solid f))) }, {}, {}, { d := some (I ((f.a - (solid f)) - f.p)) }] [1, 4] [] (mk 33 [(1, (.one (.ref 1 0))), (4, (dt (I ((f.a - (solid f)) - f.p))))] [(1, (.var [(.dat (I f.a)), (.dat (I f.p)), (.dat (I f.m)), (.dat (I f.s)), (.dat (.sl 2 (f.t.map encTrain)))]))]) ((True ∧ True ∧ True ∧ True ∧ True ∧ True ∧ True ∧ (Ret Try.prog 28 [(.agg [(I f.a), (I f.p), (I f.m), (I f.s), (.sl 2 (f.t.map encTrain))])] (I (solid f))) ∧ True ∧ (IntKind.i64.wrap (f.a - (solid f)) = (f.a - (solid f))) ∧ True ∧ True ∧ True ∧ True ∧ True ∧ (IntKind.i64.wrap ((f.a - (solid f)) - f.p) = ((f.a - (solid f)) - f.p)) ∧ True ∧ True ∧ True) ∧ True) (by kernel_rfl) (by kernel_rfl) (by kernel_rfl) ⟨⟨trivial, trivial, trivial, trivial, trivial, trivial, trivial, (ret_solidR f ht), trivial, (i64_wrap (by have := solid_bounds f (by omega); omega) (by have := solid_bounds f (by omega); omega)), trivial, trivial, trivial, trivial, trivial, (i64_wrap (by have := solid_bounds f (by omega); omega) (by have := solid_bounds f (by omega); omega)), trivial, trivial, trivial⟩, trivial⟩ ?_
    refine T_seq ?_
    rcases Bool.eq_false_or_eq_true (decide (f.m < 0)) with h4 | h4
    · skip
      have g5 : f.m < 0 := of_decide_eq_true (h4)
      refine T_reg [{}, {}, {}, {}, { g := false }, { g := false }, { d := some (B true) }] [1, 4, 24] [] (mk 33 [(1, (.one (.ref 1 0))), (4, (dt (I ((f.a - (solid f)) - f.p)))), (24, (dt (B true)))] [(1, (.var [(.dat (I f.a)), (.dat (I f.p)), (.dat (I f.m)), (.dat (I f.s)), (.dat (.sl 2 (f.t.map encTrain)))]))]) (True ∧ True ∧ True ∧ True ∧ True ∧ True ∧ True ∧ True ∧ (((decide (f.m < 0)) == false) = false) ∧ (((decide (f.m < 0)) == false) = false) ∧ True ∧ ((decide (f.m < 0)) = true) ∧ True) (by kernel_rfl) ⟨trivial, trivial, trivial, trivial, trivial, trivial, trivial, trivial, (by rw [show (decide (f.m < 0)) = true from h4]; rfl), (by rw [show (decide (f.m < 0)) = true from h4]; rfl), trivial, h4, trivial⟩ ?_
      refine T_cond true (by kernel_rfl) (fun _ => ?_) (fun h => absurd (h.symm.trans rfl) (by decide))
      refine T_reg [] [2, 3] [1] (mk 33 [(2, (dt (I 0))), (3, (dt (I 0)))] []) (True ∧ True ∧ True ∧ True ∧ True) (by kernel_rfl) ⟨trivial, trivial, trivial, trivial, trivial⟩ ?_
      refine T_ret ?_
      exact ret_here [(dt (I 0)), (dt (I 0))] (by kernel_rfl) ⟨(.inl (congrArg I (by first | (rw [profit, if_pos (by omega)]; done) | (rw [profit, if_pos (by omega)]; show _ = chk f; omega; done) | (rw [profit, if_neg (by omega), if_pos (by have := solid_bounds f (by omega); omega)]; done) | (rw [profit, if_neg (by omega), if_pos (by have := solid_bounds f (by omega); omega)]; show _ = (0 : Int); omega; done) | (rw [profit, if_neg (by omega), if_neg (by omega)]; done) | (rw [profit, if_neg (by omega), if_neg (by omega), partM_two (by have := solid_bounds f (by omega); omega) (by have := solid_bounds f (by omega); omega) (by have := solid_bounds f (by omega); omega) (by have := solid_bounds f (by omega); omega)]; done) | (exact congrArg Prod.fst (profit_max (by omega) (by omega)); done) | (exact congrArg Prod.snd (profit_max (by omega) (by omega)); done) : 0 = (profit f).1))), (.inl (congrArg I (by first | (rw [profit, if_pos (by omega)]; done) | (rw [profit, if_pos (by omega)]; show _ = chk f; omega; done) | (rw [profit, if_neg (by omega), if_pos (by have := solid_bounds f (by omega); omega)]; done) | (rw [profit, if_neg (by omega), if_pos (by have := solid_bounds f (by omega); omega)]; show _ = (0 : Int); omega; done) | (rw [profit, if_neg (by omega), if_neg (by omega)]; done) | (rw [profit, if_neg (by omega), if_neg (by omega), partM_two (by have := solid_bounds f (by omega); omega) (by have := solid_bounds f (by omega); omega) (by have := solid_bounds f (by omega); omega) (by have := solid_bounds f (by omega); omega)]; done) | (exact congrArg Prod.fst (profit_max (by omega) (by omega)); done) | (exact congrArg Prod.snd (profit_max (by omega) (by omega)); done) : 0 = (profit f).2))), trivial⟩
    · skip
      have g6 : ¬ (f.m < 0) := of_decide_eq_false (h4)
      refine T_reg [{}, {}, {}, {}, {}, {}, { d := some (B false) }] [1, 4, 24] [] (mk 33 [(1, (.one (.ref 1 0))), (4, (dt (I ((f.a - (solid f)) - f.p)))), (24, (dt (B (decide (((f.a - (solid f)) - f.p) ≤ 0)))))] [(1, (.var [(.dat (I f.a)), (.dat (I f.p)), (.dat (I f.m)), (.dat (I f.s)), (.dat (.sl 2 (f.t.map encTrain)))]))]) (True ∧ True ∧ True ∧ True ∧ True ∧ True ∧ True ∧ True ∧ (((decide (f.m < 0)) == false) = true) ∧ True ∧ (((decide (f.m < 0)) == false) = true) ∧ True ∧ True ∧ ((decide (f.m < 0)) = false) ∧ True) (by kernel_rfl) ⟨trivial, trivial, trivial, trivial, trivial, trivial, trivial, trivial, (by rw [show (decide (f.m < 0)) = false from h4]; rfl), trivial, (by rw [show (decide (f.m < 0)) = false from h4]; rfl), trivial, trivial, h4, trivial⟩ ?_
      refine T_cond (decide (((f.a - (solid f)) - f.p) ≤ 0)) (by kernel_rfl) (fun h7 => ?_) (fun h7 => ?_)
      · skip
        have g8 : ((f.a - (solid f)) - f.p) ≤ 0 := of_decide_eq_true (h7)
        refine T_reg [] [2, 3] [1] (mk 33 [(2, (dt (I 0))), (3, (dt (I 0)))] []) (True ∧ True ∧ True ∧ True ∧ True) (by kernel_rfl) ⟨trivial, trivial, trivial, trivial, trivial⟩ ?_
        refine T_ret ?_
        exact ret_here [(dt (I 0)), (dt (I 0))] (by kernel_rfl) ⟨(.inl (congrArg I (by first | (rw [profit, if_pos (by omega)]; done) | (rw [profit, if_pos (by omega)]; show _ = chk f; omega; done) | (rw [profit, if_neg (by omega), if_pos (by have := solid_bounds f (by omega); omega)]; done) | (rw [profit, if_neg (by omega), if_pos (by have := solid_bounds f (by omega); omega)]; show _ = (0 : Int); omega; done) | (rw [profit, if_neg (by omega), if_neg (by omega)]; done) | (rw [profit, if_neg (by omega), if_neg (by omega), partM_two (by have := solid_bounds f (by omega); omega) (by have := solid_bounds f (by omega); omega) (by have := solid_bounds f (by omega); omega) (by have := solid_bounds f (by omega); omega)]; done) | (exact congrArg Prod.fst (profit_max (by omega) (by omega)); done) | (exact congrArg Prod.snd (profit_max (by omega) (by omega)); done) : 0 = (profit f).1))), (.inl (congrArg I (by first | (rw [profit, if_pos (by omega)]; done) | (rw [profit, if_pos (by omega)]; show _ = chk f; omega; done) | (rw [profit, if_neg (by omega), if_pos (by have := solid_bounds f (by omega); omega)]; done) | (rw [profit, if_neg (by omega), if_pos (by have := solid_bounds f (by omega); omega)]; show _ = (0 : Int); omega; done) | (rw [profit, if_neg (by omega), if_neg (by omega)]; done) | (rw [profit, if_neg (by omega), if_neg (by omega), partM_two (by have := solid_bounds f (by omega); omega) (by have := solid_bounds f (by omega); omega) (by have := solid_bounds f (by omega); omega) (by have := solid_bounds f (by omega); omega)]; done) | (exact congrArg Prod.fst (profit_max (by omega) (by omega)); done) | (exact congrArg Prod.snd (profit_max (by omega) (by omega)); done) : 0 = (profit f).2))), trivial⟩
      · skip
        have g9 : ¬ (((f.a - (solid f)) - f.p) ≤ 0) := of_decide_eq_false (h7)
        refine T_skip ?_
        refine T_reg [{}, {}, {}, { d := some (.tup [(I (partM ((f.a - (solid f)) - f.p) f.s).1), (I (partM ((f.a - (solid f)) - f.p) f.s).2)]) }] [5] [1] (mk 33 [(5, (dt (I (partM ((f.a - (solid f)) - f.p) f.s).1)))] []) (True ∧ True ∧ True ∧ True ∧ True ∧ True ∧ True ∧ (Ret Try.prog 29 [(I ((f.a - (solid f)) - f.p)), (I f.s)] (.tup [(I (partM ((f.a - (solid f)) - f.p) f.s).1), (I (partM ((f.a - (solid f)) - f.p) f.s).2)])) ∧ True ∧ True ∧ True ∧ True ∧ True ∧ True ∧ True ∧ True ∧ True ∧ True ∧ True) (by kernel_rfl) ⟨trivial, trivial, trivial, trivial, trivial, trivial, trivial, (ret_partMR _ _), trivial, trivial, trivial, trivial, trivial, trivial, trivial, trivial, trivial, trivial, trivial⟩ ?_
        refine T_reg [] [2, 3] [] (mk 33 [(2, (dt (I (partM ((f.a - (solid f)) - f.p) f.s).1))), (3, (dt (I 0)))] []) (True ∧ True ∧ True ∧ True ∧ True ∧ True ∧ True) (by kernel_rfl) ⟨trivial, trivial, trivial, trivial, trivial, trivial, trivial⟩ ?_
        refine T_ret ?_
        exact ret_here [(dt (I (partM ((f.a - (solid f)) - f.p) f.s).1)), (dt (I 0))] (by kernel_rfl) ⟨(.inl (congrArg I (by first | (rw [profit, if_pos (by omega)]; done) | (rw [profit, if_pos (by omega)]; show _ = chk f; omega; done) | (rw [profit, if_neg (by omega), if_pos (by have := solid_bounds f (by omega); omega)]; done) | (rw [profit, if_neg (by omega), if_pos (by have := solid_bounds f (by omega); omega)]; show _ = (0 : Int); omega; done) | (rw [profit, if_neg (by omega), if_neg (by omega)]; done) | (rw [profit, if_neg (by omega), if_neg (by omega), partM_two (by have := solid_bounds f (by omega); omega) (by have := solid_bounds f (by omega); omega) (by have := solid_bounds f (by omega); omega) (by have := solid_bounds f (by omega); omega)]; done) | (exact congrArg Prod.fst (profit_max (by omega) (by omega)); done) | (exact congrArg Prod.snd (profit_max (by omega) (by omega)); done) : (partM ((f.a - (solid f)) - f.p) f.s).1 = (profit f).1))), (.inl (congrArg I (by first | (rw [profit, if_pos (by omega)]; done) | (rw [profit, if_pos (by omega)]; show _ = chk f; omega; done) | (rw [profit, if_neg (by omega), if_pos (by have := solid_bounds f (by omega); omega)]; done) | (rw [profit, if_neg (by omega), if_pos (by have := solid_bounds f (by omega); omega)]; show _ = (0 : Int); omega; done) | (rw [profit, if_neg (by omega), if_neg (by omega)]; done) | (rw [profit, if_neg (by omega), if_neg (by omega), partM_two (by have := solid_bounds f (by omega); omega) (by have := solid_bounds f (by omega); omega) (by have := solid_bounds f (by omega); omega) (by have := solid_bounds f (by omega); omega)]; done) | (exact congrArg Prod.fst (profit_max (by omega) (by omega)); done) | (exact congrArg Prod.snd (profit_max (by omega) (by omega)); done) : 0 = (profit f).2))), trivial⟩

theorem ret_same (a b : List Pay) (ha : a.length ≤ 140737488355328) (hb : b.length ≤ 140737488355328) : Ret Try.prog 18 [(.sl 2 (a.map encPay)), (.sl 2 (b.map encPay))] (B (decide (a = b))) := by
  refine Ret.of_T Try.func18 (by kernel_rfl) rfl ?_
  refine T_turn [] [0, 1] [] (mk 26 [(0, (dt (.sl 2 (a.map encPay)))), (1, (dt (.sl 2 (b.map encPay))))] []) (by kernel_rfl) ?_
  refine T_reg [] [0, 1] [] (mk 26 [(0, (dt (.sl 2 (a.map encPay)))), (1, (dt (.sl 2 (b.map encPay))))] []) (True ∧ True ∧ True) (by kernel_rfl) ⟨trivial, trivial, trivial⟩ ?_
  refine T_seq ?_
  refine T_reg [{}, { d := some (I ((a.length : Nat) : Int)) }, {}, { d := some (I ((b.length : Nat) : Int)) }] [0, 1, 10] [] (mk 26 [(0, (dt (.sl 2 (a.map encPay)))), (1, (dt (.sl 2 (b.map encPay)))), (10, (dt (B (((a.length : Nat) : Int) != ((b.length : Nat) : Int)))))] []) (True ∧ True ∧ True ∧ (True ∧ D.int .i64 ((a.map encPay).length : Int) = (I ((a.length : Nat) : Int))) ∧ True ∧ True ∧ True ∧ (True ∧ D.int .i64 ((b.map encPay).length : Int) = (I ((b.length : Nat) : Int))) ∧ True ∧ True ∧ True) (by kernel_rfl) ⟨trivial, trivial, trivial, ⟨trivial, by rw [List.length_map]⟩, trivial, trivial, trivial, ⟨trivial, by rw [List.length_map]⟩, trivial, trivial, trivial⟩ ?_
  refine T_cond (((a.length : Nat) : Int) != ((b.length : Nat) : Int)) (by kernel_rfl) (fun h1 => ?_) (fun h1 => ?_)
  · skip
    have g2 : ((a.length : Nat) : Int) ≠ ((b.length : Nat) : Int) := bne_iff_ne.1 (h1)
    refine T_reg [] [4] [] (mk 26 [(4, (dt (B false)))] []) (True ∧ True ∧ True) (by kernel_rfl) ⟨trivial, trivial, trivial⟩ ?_
    refine T_ret ?_
    exact ret_here [(dt (B false))] (by kernel_rfl) (.inl (congrArg B (by first | exact (decide_eq_true (eq_of_take iv (by omega) (by omega))).symm | exact dec_ne (by assumption) (by assumption) (pay_ne (by assumption)) | (symm; rw [decide_eq_false_iff_not]; rintro rfl; omega) : false = (decide (a = b)))))
  · skip
    have g3 : ((a.length : Nat) : Int) = ((b.length : Nat) : Int) := bne_f (h1)
    refine T_skip ?_
    refine T_seq ?_
    refine T_reg [] [0, 1, 5] [] (mk 26 [(0, (dt (.sl 2 (a.map encPay)))), (1, (dt (.sl 2 (b.map encPay)))), (5, (dt (I 0)))] []) (True ∧ True ∧ True) (by kernel_rfl) ⟨trivial, trivial, trivial⟩ ?_
    refine T_block ?_
    refine T_turn [] [0, 1, 5] [] ((fun (k : Nat) => (mk 26 [(0, (dt (.sl 2 (a.map encPay)))), (1, (dt (.sl 2 (b.map encPay)))), (5, (dt (I ((k : Nat) : Int))))] [])) (0)) (by kernel_rfl) (T_loop (α := Nat) (fun (k : Nat) => (mk 26 [(0, (dt (.sl 2 (a.map encPay)))), (1, (dt (.sl 2 (b.map encPay)))), (5, (dt (I ((k : Nat) : Int))))] [])) (fun (k : Nat) => (k ≤ (a).length) ∧ (a.take k = b.take k) ∧ True) (fun (k : Nat) => (a).length - k) (0) ⟨Nat.zero_le _, rfl, trivial⟩ ?_)
    rintro k ⟨ik, iv, _⟩
    refine T_seq ?_
    refine T_reg [{}, {}, { d := some (I ((a.length : Nat) : Int)) }] [0, 1, 5, 14] [] (mk 26 [(0, (dt (.sl 2 (a.map encPay)))), (1, (dt (.sl 2 (b.map encPay)))), (5, (dt (I ((k : Nat) : Int)))), (14, (dt (B (decide (((k : Nat) : Int) < ((a.length : Nat) : Int))))))] []) (True ∧ True ∧ True ∧ True ∧ True ∧ (True ∧ D.int .i64 ((a.map encPay).length : Int) = (I ((a.length : Nat) : Int))) ∧ True ∧ True ∧ True) (by kernel_rfl) ⟨trivial, trivial, trivial, trivial, trivial, ⟨trivial, by rw [List.length_map]⟩, trivial, trivial, trivial⟩ ?_
    refine T_cond (decide (((k : Nat) : Int) < ((a.length : Nat) : Int))) (by kernel_rfl) (fun h4 => ?_) (fun h4 => ?_)
    · skip
      have g5 : ((k : Nat) : Int) < ((a.length : Nat) : Int) := of_decide_eq_true (h4)
      refine T_skip ?_
      refine T_seq ?_
      refine T_block ?_
      have lt6 : k < (a).length := by first | omega | (simp only [List.length_set, List.length_map, List.length_append, List.length_cons, List.length_nil] at *; omega)
      obtain ⟨x7, hx8⟩ : ∃ x, (a)[k]? = some x := ⟨_, List.getElem?_eq_getElem lt6⟩
      have lt9 : k < (b).length := by first | omega | (simp only [List.length_set, List.length_map, List.length_append, List.length_cons, List.length_nil] at *; omega)
      obtain ⟨x10, hx11⟩ : ∃ x, (b)[k]? = some x := ⟨_, List.getElem?_eq_getElem lt9⟩
      refine T_regD 9 [{}, {}, { d := some (.agg [(I x7.c), (I x7.a)]) }, {}, {}, {}, { d := some (.agg [(I x10.c), (I x10.a)]) }] [0, 1, 5, 25] [] (mk 26 [(0, (dt (.sl 2 (a.map encPay)))), (1, (dt (.sl 2 (b.map encPay)))), (5, (dt (I ((k : Nat) : Int)))), (25, (dt (B (!((x7.c == x10.c) && ((x7.a == x10.a) && true))))))] []) ((True ∧ True ∧ True ∧ True ∧ True ∧ (0 ≤ ((k : Nat) : Int) ∧ (a.map encPay)[k]? = some (.agg [(I x7.c), (I x7.a)])) ∧ True ∧ True ∧ True ∧ True ∧ True ∧ True ∧ True ∧ (0 ≤ ((k : Nat) : Int) ∧ (b.map encPay)[k]? = some (.agg [(I x10.c), (I x10.a)])) ∧ True ∧ True ∧ True ∧ True ∧ True) ∧ True) (by kernel_rfl) (by kernel_rfl) (by kernel_rfl) ⟨⟨trivial, trivial, trivial, trivial, trivial, ⟨by omega, by rw [List.getElem?_map, hx8]; rfl⟩, trivial, trivial, trivial, trivial, trivial, trivial, trivial, ⟨by omega, by rw [List.getElem?_map, hx11]; rfl⟩, trivial, trivial, trivial, trivial, trivial⟩, trivial⟩ ?_
      refine T_cond (!((x7.c == x10.c) && ((x7.a == x10.a) && true))) (by kernel_rfl) (fun h12 => ?_) (fun h12 => ?_)
      · skip
        have n13 : ((x7.c == x10.c) && ((x7.a == x10.a) && true)) = false := not_t h12
        refine T_reg [] [4] [] (mk 26 [(4, (dt (B false)))] []) (True ∧ True ∧ True) (by kernel_rfl) ⟨trivial, trivial, trivial⟩ ?_
        refine T_ret ?_
        exact ret_here [(dt (B false))] (by kernel_rfl) (.inl (congrArg B (by first | exact (decide_eq_true (eq_of_take iv (by omega) (by omega))).symm | exact dec_ne (by assumption) (by assumption) (pay_ne (by assumption)) | (symm; rw [decide_eq_false_iff_not]; rintro rfl; omega) : false = (decide (a = b)))))
      · skip
        have n14 : ((x7.c == x10.c) && ((x7.a == x10.a) && true)) = true := not_f h12
        refine T_skip ?_
        refine T_regE [{}, { d := some (I ((k + 1 : Nat) : Int)) }] (mk 26 [(0, (dt (.sl 2 (a.map encPay)))), (1, (dt (.sl 2 (b.map encPay)))), (5, (dt (I ((k + 1 : Nat) : Int)))), (15, (dt (I ((k : Nat) : Int)))), (16, (dt (I ((k + 1 : Nat) : Int)))), (25, (dt (B (!((x7.c == x10.c) && ((x7.a == x10.a) && true))))))] []) (True ∧ True ∧ True ∧ (IntKind.i64.wrap (((k : Nat) : Int) + 1) = ((k + 1 : Nat) : Int)) ∧ True ∧ True ∧ True) (by kernel_rfl) ⟨trivial, trivial, trivial, (by rw [i64_wrap (by omega) (by omega)]; omega), trivial, trivial, trivial⟩ ?_
        refine Exists.intro (k + 1) ⟨⟨by omega, by exact take_eq_succ iv hx8 hx11 (pay_eq (by assumption)), trivial⟩, by first | omega | (dsimp only; omega), le_turn [] [0, 1, 5] [] (by kernel_rfl)⟩
    · skip
      have g15 : ¬ (((k : Nat) : Int) < ((a.length : Nat) : Int)) := of_decide_eq_false (h4)
      refine T_exit ?_
      refine T_reg [] [4] [] (mk 26 [(4, (dt (B true)))] []) (True ∧ True ∧ True) (by kernel_rfl) ⟨trivial, trivial, trivial⟩ ?_
      refine T_ret ?_
      exact ret_here [(dt (B true))] (by kernel_rfl) (.inl (congrArg B (by first | exact (decide_eq_true (eq_of_take iv (by omega) (by omega))).symm | exact dec_ne (by assumption) (by assumption) (pay_ne (by assumption)) | (symm; rw [decide_eq_false_iff_not]; rintro rfl; omega) : true = (decide (a = b)))))

theorem ret_amount (l : List Pay) (c : Int) (hl : l.length ≤ 140737488355328) : Ret Try.prog 21 [(.sl 2 (l.map encPay)), (I c)] (I (amt c l)) := by
  refine Ret.of_T Try.func21 (by kernel_rfl) rfl ?_
  refine T_turn [] [0, 1] [] (mk 24 [(0, (dt (.sl 2 (l.map encPay)))), (1, (dt (I c)))] []) (by kernel_rfl) ?_
  refine T_reg [] [0, 1] [] (mk 24 [(0, (dt (.sl 2 (l.map encPay)))), (1, (dt (I c)))] []) (True ∧ True ∧ True) (by kernel_rfl) ⟨trivial, trivial, trivial⟩ ?_
  refine T_seq ?_
  refine T_reg [] [0, 1, 5] [] (mk 24 [(0, (dt (.sl 2 (l.map encPay)))), (1, (dt (I c))), (5, (dt (I 0)))] []) (True ∧ True ∧ True) (by kernel_rfl) ⟨trivial, trivial, trivial⟩ ?_
  refine T_block ?_
  refine T_turn [] [0, 1, 5] [] ((fun (k : Nat) => (mk 24 [(0, (dt (.sl 2 (l.map encPay)))), (1, (dt (I c))), (5, (dt (I ((k : Nat) : Int))))] [])) (0)) (by kernel_rfl) (T_loop (α := Nat) (fun (k : Nat) => (mk 24 [(0, (dt (.sl 2 (l.map encPay)))), (1, (dt (I c))), (5, (dt (I ((k : Nat) : Int))))] [])) (fun (k : Nat) => (k ≤ (l).length) ∧ (amt c (l.drop k) = amt c l) ∧ True) (fun (k : Nat) => (l).length - k) (0) ⟨Nat.zero_le _, rfl, trivial⟩ ?_)
  rintro k ⟨ik, iv, _⟩
  refine T_seq ?_
  refine T_reg [{}, {}, { d := some (I ((l.length : Nat) : Int)) }] [0, 1, 5, 9] [] (mk 24 [(0, (dt (.sl 2 (l.map encPay)))), (1, (dt (I c))), (5, (dt (I ((k : Nat) : Int)))), (9, (dt (B (decide (((k : Nat) : Int) < ((l.length : Nat) : Int))))))] []) (True ∧ True ∧ True ∧ True ∧ True ∧ (True ∧ D.int .i64 ((l.map encPay).length : Int) = (I ((l.length : Nat) : Int))) ∧ True ∧ True ∧ True) (by kernel_rfl) ⟨trivial, trivial, trivial, trivial, trivial, ⟨trivial, by rw [List.length_map]⟩, trivial, trivial, trivial⟩ ?_
  refine T_cond (decide (((k : Nat) : Int) < ((l.length : Nat) : Int))) (by kernel_rfl) (fun h1 => ?_) (fun h1 => ?_)
  · skip
    have g2 : ((k : Nat) : Int) < ((l.length : Nat) : Int) := of_decide_eq_true (h1)
    refine T_skip ?_
    refine T_seq ?_
    refine T_block ?_
    have lt3 : k < (l).length := by first | omega | (simp only [List.length_set, List.length_map, List.length_append, List.length_cons, List.length_nil] at *; omega)
    obtain ⟨x4, hx5⟩ : ∃ x, (l)[k]? = some x := ⟨_, List.getElem?_eq_getElem lt3⟩
    refine T_reg [{}, {}, { d := some (.agg [(I x4.c), (I x4.a)]) }] [0, 1, 5, 18] [] (mk 24 [(0, (dt (.sl 2 (l.map encPay)))), (1, (dt (I c))), (5, (dt (I ((k : Nat) : Int)))), (18, (dt (B (x4.c == c))))] []) (True ∧ True ∧ True ∧ True ∧ True ∧ (0 ≤ ((k : Nat) : Int) ∧ (l.map encPay)[k]? = some (.agg [(I x4.c), (I x4.a)])) ∧ True ∧ True ∧ True ∧ True ∧ True ∧ True ∧ True ∧ True ∧ True) (by kernel_rfl) ⟨trivial, trivial, trivial, trivial, trivial, ⟨by omega, by rw [List.getElem?_map, hx5]; rfl⟩, trivial, trivial, trivial, trivial, trivial, trivial, trivial, trivial, trivial⟩ ?_
    refine T_cond (x4.c == c) (by kernel_rfl) (fun h6 => ?_) (fun h6 => ?_)
    · skip
      have g7 : x4.c = c := eq_of_beq (h6)
      refine T_reg [{}, {}, { d := some (.agg [(I x4.c), (I x4.a)]) }] [4] [] (mk 24 [(4, (dt (I x4.a)))] []) (True ∧ True ∧ True ∧ True ∧ True ∧ (0 ≤ ((k : Nat) : Int) ∧ (l.map encPay)[k]? = some (.agg [(I x4.c), (I x4.a)])) ∧ True ∧ True ∧ True ∧ True ∧ True ∧ True ∧ True) (by kernel_rfl) ⟨trivial, trivial, trivial, trivial, trivial, ⟨by omega, by rw [List.getElem?_map, hx5]; rfl⟩, trivial, trivial, trivial, trivial, trivial, trivial, trivial⟩ ?_
      refine T_ret ?_
      exact ret_here [(dt (I x4.a))] (by kernel_rfl) (.inl (congrArg I (by first | (rw [← iv, List.drop_eq_nil_of_le (by omega)]; rfl; done) | (rw [← iv, drop_cons (by assumption), amt, if_pos (by omega)]; done) : x4.a = (amt c l))))
    · skip
      have g8 : x4.c ≠ c := ne_of_beq_false (h6)
      refine T_skip ?_
      refine T_regE [{}, { d := some (I ((k + 1 : Nat) : Int)) }] (mk 24 [(0, (dt (.sl 2 (l.map encPay)))), (1, (dt (I c))), (5, (dt (I ((k + 1 : Nat) : Int)))), (10, (dt (I ((k : Nat) : Int)))), (11, (dt (I ((k + 1 : Nat) : Int)))), (18, (dt (B (x4.c == c))))] []) (True ∧ True ∧ True ∧ (IntKind.i64.wrap (((k : Nat) : Int) + 1) = ((k + 1 : Nat) : Int)) ∧ True ∧ True ∧ True) (by kernel_rfl) ⟨trivial, trivial, trivial, (by rw [i64_wrap (by omega) (by omega)]; omega), trivial, trivial, trivial⟩ ?_
      refine Exists.intro (k + 1) ⟨⟨by omega, by rw [← iv, drop_cons hx5, amt, if_neg (by omega)], trivial⟩, by first | omega | (dsimp only; omega), le_turn [] [0, 1, 5] [] (by kernel_rfl)⟩
  · skip
    have g9 : ¬ (((k : Nat) : Int) < ((l.length : Nat) : Int)) := of_decide_eq_false (h1)
    refine T_exit ?_
    refine T_reg [] [4] [] (mk 24 [(4, (dt (I 0)))] []) (True ∧ True ∧ True) (by kernel_rfl) ⟨trivial, trivial, trivial⟩ ?_
    refine T_ret ?_
    exact ret_here [(dt (I 0))] (by kernel_rfl) (.inl (congrArg I (by first | (rw [← iv, List.drop_eq_nil_of_le (by omega)]; rfl; done) | (rw [← iv, drop_cons (by assumption), amt, if_pos (by omega)]; done) : 0 = (amt c l))))

end Go.Proofs.Ythpjlkpkhlkhbaa

/-
  The plain law of money.Split: parts by rank. No conditions but those of each theorem.
-/
set_option linter.unusedVariables false
set_option linter.unusedSimpArgs false
namespace Go.Proofs.Ythpjlkpkhlkhbaa
open Go.DL
def partAt (a sum : Int) (ws : List Int) (k : Nat) : Part := ⟨k, (a * ws.getD k 0).tdiv sum, (a * ws.getD k 0).tmod sum⟩
def partsOf (a sum : Int) (ws : List Int) : List Part := (List.range ws.length).map (partAt a sum ws)
theorem partsOf_take (a sum : Int) (ws : List Int) {k : Nat} (h : k < ws.length) : (List.range k).map (partAt a sum ws) ++ [partAt a sum ws k] <+: partsOf a sum ws := by
  refine ⟨((List.range ws.length).map (partAt a sum ws)).drop (k + 1), ?_⟩
  have : (List.range k).map (partAt a sum ws) ++ [partAt a sum ws k] = ((List.range ws.length).map (partAt a sum ws)).take (k + 1) := by
    rw [← List.map_take, List.take_range, Nat.min_eq_left (by omega), List.range_succ, List.map_append]; rfl
  rw [this, List.take_append_drop]; rfl
def vInt : Value → Int
  | .int _ q => q
  | _ => 0
def sumI (l : List Int) : Int := l.foldl (· + ·) 0
/-- What is left of a, the parts of a list taken away. -/
def leftOf (a : Int) (l : List Part) : Int := l.foldl (fun n p => n - p.c) a
theorem leftOf_snoc (a : Int) (l : List Part) (x : Part) : leftOf a (l ++ [x]) = leftOf a l - x.c := by simp [leftOf]
/-- Parts of greater rest stand ahead; of those with one rest, the one of smaller index. -/
def ahead (p q : Part) : Bool := decide (q.r < p.r) || (decide (p.r = q.r) && decide (p.i < q.i))
def rank (l : List Part) (p : Part) : Nat := l.countP (fun q => ahead q p)
def splitW (a sum : Int) (ws : List Int) : List Int :=
  (partsOf a sum ws).map fun p => p.c + if (rank (partsOf a sum ws) p : Int) < leftOf a (partsOf a sum ws) then 1 else 0
end Go.Proofs.Ythpjlkpkhlkhbaa

/-
  money.parts's iterator: what it yields. Conditions: those of the theorem.
-/
set_option linter.unusedVariables false
set_option linter.unusedSimpArgs false
namespace Go.Proofs.Ythpjlkpkhlkhbaa
open Go.DL Go.RowKit Go.Shelf
attribute [local go_sem] Oper.semAt_some
set_option maxRecDepth 100000

theorem it3 : Try.prog.underlying 3 = some (TypeDesc.int IntKind.i64) := by kernel_rfl
theorem it22 : Try.prog.underlying 44 = some (TypeDesc.slice 3) := by kernel_rfl
theorem it112 : (Try.prog.info? 64).map (fun i => (i.size, i.bytes)) = some (3, 24) := by kernel_rfl
theorem itmixed : Try.prog.follows .mixedOrders = true := by kernel_rfl

set_option maxHeartbeats 4000000 in
theorem parts_iter (a sum : Int) (ws : List Int) (hs : 0 < sum) (hs2 : sum ≤ 1000000) (ha : 0 ≤ a) (ha2 : a ≤ 1125899906842624) (hw : ∀ x ∈ ws, 0 ≤ x ∧ x ≤ 1000) (hl : ws.length ≤ 256) :
    Iter Try.prog 44 [.ptr [.sl 1 (ws.map encI)], .ptr [.int .i64 a], .ptr [.int .i64 sum]] valPart (partsOf a sum ws) := by
  refine ⟨enters_of Try.func44 (by kernel_rfl) rfl, ?_⟩
  intro w A lb hsz hcap l J hJK hJd hY W h0
  obtain ⟨v0, hv0, r0⟩ := hcap 0 _ rfl
  obtain ⟨v1, hv1, r1⟩ := hcap 1 _ rfl
  obtain ⟨v2, hv2, r2⟩ := hcap 2 _ rfl
  have hlb : lb = #[v0, v1, v2] := by
    apply Array.ext
    · simpa using hsz
    · intro i h1 h2
      simp only [List.length_cons, List.length_nil] at hsz
      match i, h1 with
      | 0, h1 => have := Array.getElem?_eq_getElem h1; rw [hv0] at this; simpa using (Option.some.inj this).symm
      | 1, h1 => have := Array.getElem?_eq_getElem h1; rw [hv1] at this; simpa using (Option.some.inj this).symm
      | 2, h1 => have := Array.getElem?_eq_getElem h1; rw [hv2] at this; simpa using (Option.some.inj this).symm
      | n + 3, h1 => omega
  subst hlb
  cases r0 with
  | ptr _ b0 o0 vs0 m0 q0 =>
  cases r1 with
  | ptr _ b1 o1 vs1 m1 q1 =>
  cases r2 with
  | ptr _ b2 o2 vs2 m2 q2 =>
  have c0 := m0 0 _ rfl
  have c1 := m1 0 _ rfl
  have c2 := m2 0 _ rfl
  have e0 := q0 0 _ rfl
  have e1 := relD_int (q1 0 _ rfl)
  have e2 := relD_int (q2 0 _ rfl)
  rw [e1] at c1
  rw [e2] at c2
  simp only [Nat.add_zero] at c0 c1 c2
  generalize vs0 0 = sv at c0 e0
  have g0 : ∀ pre W, J pre W → W.cell? ⟨b0, o0, none⟩ = some sv := fun pre W h => hJK pre W h _ _ _ c0.1 c0.2
  have g1 : ∀ pre W, J pre W → W.cell? ⟨b1, o1, none⟩ = some (.int .i64 a) := fun pre W h => hJK pre W h _ _ _ c1.1 c1.2
  have g2 : ∀ pre W, J pre W → W.cell? ⟨b2, o2, none⟩ = some (.int .i64 sum) := fun pre W h => hJK pre W h _ _ _ c2.1 c2.2
  have u3 := run_underlying (P := Try.prog) it3; have u22 := run_underlying (P := Try.prog) it22
  have mixed := itmixed
  -- the slice
  obtain ⟨ad, cap, hsv, hcell⟩ : ∃ (ad : Option Addr) (cap : Nat), sv = .slice ad ws.length cap ∧ ∀ k, k < ws.length → ∃ b off, ad = some ⟨b, off, none⟩ ∧ ∀ pre W, J pre W → W.cell? ⟨b, off + k, none⟩ = some (.int .i64 (ws.getD k 0)) := by
    generalize hes : ws.map encI = es at e0
    cases e0 with
    | sl _ _ b off cap vs hlen huni hmem hrel =>
      have hl' : es.length = ws.length := by rw [← hes, List.length_map]
      refine ⟨_, cap, by rw [hl'], fun k hk => ⟨b, off, rfl, fun pre W hJ => ?_⟩⟩
      have hfk : (flat es)[k]? = some (.int .i64 (ws.getD k 0)) := by
        have h1 : es[k]? = some (encI (ws.getD k 0)) := by rw [← hes, List.getElem?_map, List.getElem?_eq_getElem hk]; simp [List.getD, List.getElem?_eq_getElem hk]
        have := flat_get (sz := 1) huni h1 (j := 0) (c := .int .i64 (ws.getD k 0)) rfl
        simpa using this
      have h2 := hmem k _ hfk
      rw [relD_int (hrel k _ hfk)] at h2
      exact hJK pre W hJ _ _ _ h2.1 h2.2
    | sl0 _ ad cap _ =>
      have : ws = [] := by simpa using hes
      subst this
      exact ⟨ad, cap, rfl, fun k hk => by simp at hk⟩
  subst hsv
  have hg0 := g0 _ _ h0
  refine callsIn_of_wp Try.func44 rfl trivial ?_ rfl
  simp only [Try.ntmps44, List.size_toArray, List.length_cons, List.length_nil, Nat.reduceAdd, Nat.reduceSub, Array.replicate_succ, Array.replicate_zero, List.push_toArray, List.append_toArray, List.nil_append, List.cons_append]
  gi_wp2
  gi_loopw [9] (fun i wr => ∃ k : Nat, k ≤ ws.length ∧ i = .int .i64 k ∧ J ((List.range k).map (partAt a sum ws)) wr)
    (fun i _ => ws.length - (vInt i).toNat)
  case atStart => exact ⟨0, Nat.zero_le _, rfl, h0⟩
  case round =>
    obtain ⟨k, hk, rfl, hJs⟩ := hrel
    by_cases hlt : k < ws.length
    · obtain ⟨b, off, rfl, hc⟩ := hcell k hlt
      have hcx := hc _ _ hJs
      have h1x := g1 _ _ hJs
      have h2x := g2 _ _ hJs
      obtain ⟨x, hxe⟩ : ∃ x, x = ws.getD k 0 := ⟨_, rfl⟩
      have hxm : 0 ≤ x ∧ x ≤ 1000 := by
        have := hw (ws[k]) (List.getElem_mem hlt)
        rw [hxe]; simpa [List.getD, List.getElem?_eq_getElem hlt] using this
      rw [← hxe] at hcx
      have hax0 : 0 ≤ a * x := Int.mul_nonneg ha hxm.1
      have hax1 : a * x ≤ 1125899906842624 * 1000 := Int.le_trans (Int.mul_le_mul_of_nonneg_left hxm.2 ha) (Int.mul_le_mul_of_nonneg_right ha2 (by decide))
      have hws : IntKind.i64.wrap (a * x) = a * x := i64_wrap (by omega) (by omega)
      have hq0 : 0 ≤ (a * x).tdiv sum := Int.tdiv_nonneg hax0 (by omega)
      have hq1 : (a * x).tdiv sum ≤ a * x := by rw [Int.tdiv_eq_ediv_of_nonneg hax0]; exact Int.ediv_le_self _ hax0
      have hwq : IntKind.i64.wrap ((a * x).tdiv sum) = (a * x).tdiv sum := i64_wrap (by omega) (by omega)
      have hsn : ¬ (sum = 0) := by omega
      have hJd2 := hJd _ _ wr.drew hJs ((Below.refl _ wr).drew)
      have hpt : partAt a sum ws k = ⟨k, (a * x).tdiv sum, (a * x).tmod sum⟩ := by rw [partAt, hxe]
      obtain ⟨fn, tmps, assign, body, hy, hR⟩ := hY _ (partAt a sum ws k) wr.drew hJd2 (partsOf_take a sum ws hlt)
      rw [hpt] at hy hR
      simp only [valPart] at hy
      have hcd : wr.drew.cell? ⟨b1, o1, none⟩ = some (.int .i64 a) := h1x
      have hcd2 : wr.drew.cell? ⟨b2, o2, none⟩ = some (.int .i64 sum) := h2x
      clear hxe hc hcell g0 g1 g2 hxm hw
      gi_wp2
      gi_region_with_o (refine ⟨rfl, RoundIn.mono hR ?_⟩; rintro e W3 ⟨rfl, hJ3⟩)
      all_goals gi_wp2
      all_goals (refine ⟨⟨k + 1, by omega, by simp, ?_⟩, by simp [vInt]; omega⟩; rw [List.range_succ, List.map_append, List.map_singleton, hpt]; exact hJ3)
    · obtain rfl : k = ws.length := by omega
      gi_wp2
      go_end0
      exact ⟨⟨_, rfl⟩, hJs⟩
end Go.Proofs.Ythpjlkpkhlkhbaa

/-
  The plain law of money.Split, first part: what the walk of its code needs. Conditions: those of each theorem.
-/
set_option linter.unusedVariables false
set_option linter.unusedSimpArgs false
namespace Go.Proofs.Ythpjlkpkhlkhbaa
open Go.DL
def sumL (n : Int) : List Int → Int
  | [] => n
  | x :: l => sumL (n + x) l
theorem sumL_nil (ws : List Int) : ws.length ≠ 0 ∨ sumL 0 ws = 0 := by
  cases ws with
  | nil => exact .inr rfl
  | cons x l => exact .inl (by simp)
theorem sumL_end {ws : List Int} {n : Int} {k : Nat} (iv : sumL n (ws.drop k) = sumL 0 ws) (h : ws.length ≤ k) : n = sumL 0 ws := by
  rw [List.drop_eq_nil_of_le h] at iv; exact iv
theorem partsOf_length (a s : Int) (ws : List Int) : (partsOf a s ws).length = ws.length := by simp [partsOf]
theorem prefix_mem {α : Type} {pre xs : List α} {x : α} (h : pre ++ [x] <+: xs) : x ∈ xs := h.subset (by simp)
theorem prefix_len {α : Type} {pre xs : List α} {x : α} (h : pre ++ [x] <+: xs) : pre.length + 1 ≤ xs.length := by have := h.length_le; simpa using this
theorem getD_mem {ws : List Int} {k : Nat} (h : k < ws.length) : ws.getD k 0 ∈ ws := by
  simp only [List.getD, List.getElem?_eq_getElem h, Option.getD_some]; exact List.getElem_mem h
theorem sumL_add (l : List Int) : ∀ n m : Int, sumL (n + m) l = sumL n l + m := by
  induction l with
  | nil => intro n m; rfl
  | cons x l ih => intro n m; simp only [sumL]; rw [show n + m + x = (n + x) + m by omega, ih]
theorem sumL_nonneg {l : List Int} (h : ∀ x ∈ l, 0 ≤ x) : 0 ≤ sumL 0 l := by
  induction l with
  | nil => exact Int.le_refl _
  | cons x l ih =>
    have h1 := ih fun y hy => h y (by simp [hy])
    have h2 := h x (by simp)
    have e : sumL 0 (x :: l) = sumL 0 l + x := by simp only [sumL]; exact sumL_add l 0 x
    omega
theorem le_sumL {l : List Int} (h : ∀ x ∈ l, 0 ≤ x) {x : Int} (hx : x ∈ l) : x ≤ sumL 0 l := by
  induction l with
  | nil => cases hx
  | cons y l ih =>
    have h1 : ∀ x ∈ l, 0 ≤ x := fun z hz => h z (by simp [hz])
    have e : sumL 0 (y :: l) = sumL 0 l + y := by simp only [sumL]; exact sumL_add l 0 y
    have h2 := sumL_nonneg h1
    have h3 := h y (by simp)
    rcases List.mem_cons.1 hx with rfl | hx
    · omega
    · have := ih h1 hx; omega
theorem part_bounds2 {a s : Int} {ws : List Int} (ha : 0 ≤ a) (ha2 : a ≤ 1125899906842624) (hs : 0 < s) (hw : ∀ x ∈ ws, 0 ≤ x ∧ x ≤ 1000) (hl : ws.length ≤ 256) (hws : ∀ x ∈ ws, x ≤ s) {x : Part} (hx : x ∈ partsOf a s ws) :
    0 ≤ x.i ∧ x.i < ws.length ∧ 0 ≤ x.c ∧ x.c ≤ 1125899906842624 ∧ 0 ≤ x.r ∧ x.r < s := by
  simp only [partsOf, List.mem_map, List.mem_range] at hx
  obtain ⟨k, hk, rfl⟩ := hx
  have h1 := hw _ (getD_mem hk)
  have h2 : 0 ≤ a * ws.getD k 0 := Int.mul_nonneg ha h1.1
  have h3 : a * ws.getD k 0 ≤ a * s := Int.mul_le_mul_of_nonneg_left (hws _ (getD_mem hk)) ha
  simp only [partAt]
  generalize a * ws.getD k 0 = m at h2 h3
  rw [Int.tdiv_eq_ediv_of_nonneg h2, Int.tmod_eq_emod_of_nonneg h2]
  have h4 := Int.ediv_nonneg h2 (Int.le_of_lt hs)
  have h5 := Int.ediv_le_of_le_mul hs h3
  have h6 := Int.emod_nonneg m (Int.ne_of_gt hs)
  have h7 := Int.emod_lt_of_pos m hs
  omega
theorem leftOf_shift (a b : Int) (l : List Part) : leftOf (a + b) l = leftOf a l + b := by
  unfold leftOf
  induction l generalizing a with
  | nil => rfl
  | cons x l ih =>
    simp only [List.foldl_cons]
    rw [show a + b - x.c = (a - x.c) + b by omega, ih]
/-- Parts of indices among those of a list. -/
theorem leftOf_low (l : List Part) : ∀ a b : Int, (∀ x ∈ l, 0 ≤ x.c ∧ x.c ≤ b) → a - b * l.length ≤ leftOf a l ∧ leftOf a l ≤ a := by
  induction l with
  | nil => intro a b _; simp [leftOf]
  | cons x l ih =>
    intro a b h
    have h1 := ih (a - x.c) b (fun y hy => h y (by simp [hy]))
    have h2 := h x (by simp)
    have e : leftOf a (x :: l) = leftOf (a - x.c) l := rfl
    rw [e]
    simp only [List.length_cons, Int.natCast_add, Int.natCast_one, Int.mul_add, Int.mul_one]
    omega
theorem leftOf_bounds {a s : Int} {ws : List Int} (ha : 0 ≤ a) (ha2 : a ≤ 1125899906842624) (hs : 0 < s) (hw : ∀ x ∈ ws, 0 ≤ x ∧ x ≤ 1000) (hl : ws.length ≤ 256) (hws : ∀ x ∈ ws, x ≤ s) {pre : List Part} (h : pre <+: partsOf a s ws) :
    -1125899906842624 * 256 ≤ leftOf a pre ∧ leftOf a pre ≤ 1125899906842624 := by
  have h1 := leftOf_low pre a 1125899906842624 (fun x hx => by have := part_bounds2 ha ha2 hs hw hl hws (h.subset hx); omega)
  have h2 := h.length_le
  rw [partsOf_length] at h2
  omega
theorem parts_ne {a s : Int} {ws : List Int} (hs : 0 < sumL 0 ws) : partsOf a s ws ≠ [] := by
  intro e
  have h1 := congrArg List.length e
  rw [partsOf_length] at h1
  have h2 := sumL_nil ws
  simp at h1
  subst h1
  simp [sumL] at hs
/-- A sorted order of parts. -/
def sortR (d d' : List Part) : Prop := d'.Perm d ∧ d'.Pairwise fun p q => ahead q p = false
theorem parts_nodup (a s : Int) (ws : List Int) : ((partsOf a s ws).map (·.i)).Nodup := by
  have : (partsOf a s ws).map (·.i) = (List.range ws.length).map fun k : Nat => (k : Int) := by
    simp only [partsOf, List.map_map]; rfl
  rw [this]
  exact List.Pairwise.map _ (fun a b h e => h (by omega)) List.nodup_range
theorem sorted_nodup {a s : Int} {ws : List Int} {d : List Part} (h : sortR (partsOf a s ws) d) : (d.map (·.i)).Nodup := (h.1.map _).nodup_iff.2 (parts_nodup a s ws)
theorem nodup_ne {d : List Part} (h : (d.map (·.i)).Nodup) {j k : Nat} {x y : Part} (hj : d[j]? = some x) (hk : d[k]? = some y) (hne : j ≠ k) : x.i ≠ y.i := by
  intro e
  have h1 : (d.map (·.i))[j]? = some x.i := by rw [List.getElem?_map, hj]; rfl
  have h2 : (d.map (·.i))[k]? = some x.i := by rw [List.getElem?_map, hk, e]; rfl
  obtain ⟨l1, e1⟩ := List.getElem?_eq_some_iff.1 h1
  obtain ⟨l2, e2⟩ := List.getElem?_eq_some_iff.1 h2
  have hp := List.pairwise_iff_getElem.1 (show List.Pairwise (· ≠ ·) (d.map (·.i)) from h)
  rcases Nat.lt_or_gt_of_ne hne with h3 | h3
  · exact hp j k l1 l2 h3 (e1.trans e2.symm)
  · exact hp k j l2 l1 h3 (e2.trans e1.symm)
/-- What the first k of the sorted parts have been given. -/
def Filled (L : Int) (d : List Part) (k : Nat) (cs : List Int) : Prop := ∀ j x, j < k → d[j]? = some x → cs[x.i.toNat]? = some (x.c + if (j : Int) < L then 1 else 0)
theorem fill_start (L : Int) (d : List Part) (cs : List Int) : Filled L d 0 cs := fun j x h => absurd h (Nat.not_lt_zero j)
theorem fill_set {L : Int} {d : List Part} {k : Nat} {cs : List Int} (h : Filled L d k cs) (hn : (d.map (·.i)).Nodup) (h0 : ∀ x ∈ d, 0 ≤ x.i) {x : Part} (hx : d[k]? = some x) (v : Int) : Filled L d k (cs.set x.i.toNat v) := by
  intro j y hj hy
  have hne := nodup_ne hn hy hx (by omega)
  have h1 := h0 x (List.mem_of_getElem? hx)
  have h2 := h0 y (List.mem_of_getElem? hy)
  rw [List.getElem?_set_ne (by omega)]
  exact h j y hj hy
theorem fill_put {L : Int} {d : List Part} {k : Nat} {cs : List Int} (h : Filled L d k cs) {x : Part} (hx : d[k]? = some x) (hc : cs[x.i.toNat]? = some (x.c + if (k : Int) < L then 1 else 0)) : Filled L d (k + 1) cs := by
  intro j y hj hy
  by_cases e : j = k
  · subst e; rw [hx] at hy; cases hy; exact hc
  · exact h j y (by omega) hy
theorem sorted_mem {a s : Int} {ws : List Int} {d : List Part} (h : sortR (partsOf a s ws) d) {x : Part} (hx : x ∈ d) : 0 ≤ x.i ∧ x.i < ws.length := by
  have := h.1.mem_iff.1 hx
  simp only [partsOf, List.mem_map, List.mem_range] at this
  obtain ⟨k, hk, rfl⟩ := this
  simp only [partAt]; omega
theorem fill_more {a s L : Int} {ws : List Int} {d : List Part} {k : Nat} {cs : List Int} (h : Filled L d k cs) (hR : sortR (partsOf a s ws) d) {x : Part} (hx : d[k]? = some x) (hc : cs.length = 256) (hl : ws.length ≤ 256) (hk : (k : Int) < L) :
    Filled L d (k + 1) ((cs.set x.i.toNat x.c).set x.i.toNat (x.c + 1)) := by
  have hb := sorted_mem hR (List.mem_of_getElem? hx)
  have hn := sorted_nodup hR
  refine fill_put (fill_set (fill_set h hn (fun y hy => (sorted_mem hR hy).1) hx _) hn (fun y hy => (sorted_mem hR hy).1) hx _) hx ?_
  rw [List.getElem?_set_self (by rw [List.length_set]; omega), if_pos hk]
theorem fill_less {a s L : Int} {ws : List Int} {d : List Part} {k : Nat} {cs : List Int} (h : Filled L d k cs) (hR : sortR (partsOf a s ws) d) {x : Part} (hx : d[k]? = some x) (hc : cs.length = 256) (hl : ws.length ≤ 256) (hk : ¬ (k : Int) < L) :
    Filled L d (k + 1) (cs.set x.i.toNat x.c) := by
  have hb := sorted_mem hR (List.mem_of_getElem? hx)
  refine fill_put (fill_set h (sorted_nodup hR) (fun y hy => (sorted_mem hR hy).1) hx _) hx ?_
  rw [List.getElem?_set_self (by omega), if_neg hk, Int.add_zero]
/-- A part's place in a sorted order is its rank. -/
theorem rank_at {d0 d : List Part} (hR : sortR d0 d) (hn : (d.map (·.i)).Nodup) {j : Nat} {x : Part} (hx : d[j]? = some x) : rank d0 x = j := by
  unfold rank
  rw [← hR.1.countP_eq]
  obtain ⟨hlt, rfl⟩ := List.getElem?_eq_some_iff.1 hx
  have hp := List.pairwise_iff_getElem.1 hR.2
  have e : d = d.take j ++ (d[j] :: d.drop (j + 1)) := by rw [← List.drop_eq_getElem_cons hlt, List.take_append_drop]
  have h1 : (d.take j).countP (fun q => ahead q d[j]) = j := by
    rw [List.countP_eq_length.2, List.length_take, Nat.min_eq_left (by omega)]
    intro y hy
    obtain ⟨i, hi, rfl⟩ := List.mem_iff_getElem.1 hy
    have hi' : i < j := by rw [List.length_take] at hi; omega
    rw [List.getElem_take]
    have h2 := hp i j (by omega) hlt hi'
    have h3 := nodup_ne hn (List.getElem?_eq_getElem (show i < d.length by omega)) (List.getElem?_eq_getElem hlt) (by omega)
    simp only [ahead, Bool.or_eq_false_iff, Bool.and_eq_false_iff, decide_eq_false_iff_not, Bool.or_eq_true, Bool.and_eq_true, decide_eq_true_eq] at h2 ⊢
    omega
  have h4 : (d.drop (j + 1)).countP (fun q => ahead q d[j]) = 0 := by
    rw [List.countP_eq_zero]
    intro y hy
    obtain ⟨i, hi, rfl⟩ := List.mem_iff_getElem.1 hy
    rw [List.getElem_drop]
    rw [List.length_drop] at hi
    have h2 := hp j (j + 1 + i) hlt (by omega) (by omega)
    simp [h2]
  have h5 : ahead d[j] d[j] = false := by simp [ahead]
  have h6 : d.countP (fun q => ahead q d[j]) = (d.take j ++ (d[j] :: d.drop (j + 1))).countP (fun q => ahead q d[j]) := congrArg (List.countP _) e
  rw [h6, List.countP_append, List.countP_cons, h1, h4, h5]
  simp
theorem filled_end {a s : Int} {ws : List Int} {d : List Part} {k : Nat} {cs : List Int} (h : Filled (leftOf a (partsOf a s ws)) d k cs) (hR : sortR (partsOf a s ws) d) (hc : cs.length = 256) (hl : ws.length ≤ 256) (hk : d.length ≤ k) : cs.take ws.length = splitW a s ws := by
  apply List.ext_getElem?
  intro i
  rw [List.getElem?_take]
  split
  · rename_i hi
    have hpi : (partsOf a s ws)[i]? = some (partAt a s ws i) := by
      rw [partsOf, List.getElem?_map, List.getElem?_range hi]; rfl
    obtain ⟨j, hj, hje⟩ := List.mem_iff_getElem.1 (hR.1.mem_iff.2 (List.mem_of_getElem? hpi))
    have hdj : d[j]? = some (partAt a s ws i) := by rw [List.getElem?_eq_getElem hj, hje]
    have h1 := h j _ (by omega) hdj
    have h2 : (partAt a s ws i).i.toNat = i := by simp [partAt]
    rw [h2] at h1
    rw [h1, splitW, List.getElem?_map, hpi, Option.map_some, rank_at hR (sorted_nodup hR) hdj]
  · rename_i hi
    rw [splitW, List.getElem?_map, List.getElem?_eq_none (by rw [partsOf_length]; omega)]; rfl
end Go.Proofs.Ythpjlkpkhlkhbaa

/-
  DERIVED: THE SHELF's CONTRACTS AT THIS DUMP, IN PLAIN WORDS (tools/lay-plain.mjs out of 'YthpjlkpkhlkhbaaLays0.lean', which tools/lay-shelf.mjs wrote): THE SAME DECLARATIONS UNDER THE SAME NAMES: 'import', 'namespace', 'open', 'def', 'theorem' AND NOTHING ELSE: no command of the shelf's: FOR A HAND-IN. Each laying: the table of numbers ('.._ren') and one theorem, a field a fact of the dump's own or the kernel's comparison; each contract: ONE APPLICATION.
-/
namespace Go.Proofs
open Go.Shelf
def Try.lsort_ren : Go.Shelf.Ren := ⟨fun | 6 => 37 | 15 => 46 | 14 => 45 | 28 => 59 | 29 => 60 | 20 => 51 | 21 => 52 | 22 => 53 | 23 => 54 | 24 => 55 | 25 => 56 | 26 => 57 | 27 => 58 | 46 => 71 | 47 => 72 | 48 => 73 | 49 => 74 | 50 => 75 | 57 => 79 | n => n, fun | 22 => 59 | 24 => 64 | 25 => 66 | 3 => 3 | 39 => 73 | 0 => 0 | 53 => 87 | 55 => 89 | 4 => 4 | 46 => 80 | 45 => 79 | 50 => 84 | 5 => 5 | 9 => 9 | 66 => 96 | 70 => 100 | 76 => 104 | 77 => 105 | n => n, fun | n => n⟩
theorem Try.lsort : Go.Proofs.SlLaysF0.n6 Try.prog Try.lsort_ren := {
  mixed := by kernel_rfl
  f6 := ⟨Try.f37.name, by decide, Try.func37.trans (congrArg some (by kernel_rfl))⟩
  f14 := ⟨Try.f45.name, by decide, Try.func45.trans (congrArg some (by kernel_rfl))⟩
  f15 := Try.func46.trans (congrArg some (by kernel_rfl))
  f20 := ⟨Try.f51.name, by decide, Try.func51.trans (congrArg some (by kernel_rfl))⟩
  f21 := ⟨Try.f52.name, by decide, Try.func52.trans (congrArg some (by kernel_rfl))⟩
  f22 := ⟨Try.f53.name, by decide, Try.func53.trans (congrArg some (by kernel_rfl))⟩
  f23 := ⟨Try.f54.name, by decide, Try.func54.trans (congrArg some (by kernel_rfl))⟩
  f24 := ⟨Try.f55.name, by decide, Try.func55.trans (congrArg some (by kernel_rfl))⟩
  f25 := ⟨Try.f56.name, by decide, Try.func56.trans (congrArg some (by kernel_rfl))⟩
  f26 := ⟨Try.f57.name, by decide, Try.func57.trans (congrArg some (by kernel_rfl))⟩
  f27 := ⟨Try.f58.name, by decide, Try.func58.trans (congrArg some (by kernel_rfl))⟩
  f28 := Try.func59.trans (congrArg some (by kernel_rfl))
  f29 := Try.func60.trans (congrArg some (by kernel_rfl))
  f46 := ⟨Try.f71.name, by decide, Try.func71.trans (congrArg some (by kernel_rfl))⟩
  f47 := Try.func72.trans (congrArg some (by kernel_rfl))
  f48 := Try.func73.trans (congrArg some (by kernel_rfl))
  f49 := ⟨Try.f74.name, by decide, Try.func74.trans (congrArg some (by kernel_rfl))⟩
  f50 := ⟨Try.f75.name, by decide, Try.func75.trans (congrArg some (by kernel_rfl))⟩
  f57 := ⟨Try.f79.name, by decide, Try.func79.trans (congrArg some (by kernel_rfl))⟩
  t0 := Try.underlying0
  a0 := Try.isAgg0
  z0 := Try.sizeOf0
  v0 := Try.zeroValue0
  t3 := Try.underlying3
  a3 := Try.isAgg3
  z3 := Try.sizeOf3
  v3 := Try.zeroValue3
  t4 := Try.underlying4
  a4 := Try.isAgg4
  z4 := Try.sizeOf4
  v4 := Try.zeroValue4
  t5 := Try.underlying5
  a5 := Try.isAgg5
  z5 := Try.sizeOf5
  v5 := Try.zeroValue5
  t9 := Try.underlying9
  a9 := Try.isAgg9
  z9 := Try.sizeOf9
  v9 := Try.zeroValue9
  t22 := Try.underlying59
  a22 := Try.isAgg59
  z22 := Try.sizeOf59
  v22 := Try.zeroValue59
  t25 := Try.underlying66
  a25 := Try.isAgg66
  z25 := Try.sizeOf66
  v25 := Try.zeroValue66
  t39 := Try.underlying73
  a39 := Try.isAgg73
  z39 := Try.sizeOf73
  v39 := Try.zeroValue73
  t45 := Try.underlying79
  a45 := Try.isAgg79
  z45 := Try.sizeOf79
  v45 := Try.zeroValue79
  t46 := Try.underlying80
  a46 := Try.isAgg80
  z46 := Try.sizeOf80
  v46 := Try.zeroValue80
  t50 := Try.underlying84
  a50 := Try.isAgg84
  z50 := Try.sizeOf84
  v50 := Try.zeroValue84
  t53 := Try.underlying87
  a53 := Try.isAgg87
  z53 := Try.sizeOf87
  v53 := Try.zeroValue87
  t55 := Try.underlying89
  a55 := Try.isAgg89
  z55 := Try.sizeOf89
  v55 := Try.zeroValue89
  t66 := Try.underlying96
  a66 := Try.isAgg96
  z66 := Try.sizeOf96
  v66 := Try.zeroValue96
  t70 := Try.underlying100
  a70 := Try.isAgg100
  z70 := Try.sizeOf100
  v70 := Try.zeroValue100
  t76 := Try.underlying104
  a76 := Try.isAgg104
  z76 := Try.sizeOf104
  v76 := Try.zeroValue104
  t77 := Try.underlying105
  a77 := Try.isAgg105
  z77 := Try.sizeOf105
  v77 := Try.zeroValue105 }
def Try.lcmp_ren : Go.Shelf.Ren := ⟨fun | 5 => 48 | 7 => 61 | n => n, fun | 22 => 3 | 3 => 3 | 4 => 4 | n => n, fun | n => n⟩
theorem Try.lcmp : Go.Proofs.SlLaysC2.n5 Try.prog Try.lcmp_ren := {
  mixed := by kernel_rfl
  f5 := ⟨Try.f48.name, by decide, Try.func48.trans (congrArg some (by kernel_rfl))⟩
  f7 := ⟨Try.f61.name, by decide, Try.func61.trans (congrArg some (by kernel_rfl))⟩
  t3 := Try.underlying3
  a3 := Try.isAgg3
  z3 := Try.sizeOf3
  v3 := Try.zeroValue3
  t4 := Try.underlying4
  a4 := Try.isAgg4
  z4 := Try.sizeOf4
  v4 := Try.zeroValue4
  t22 := Try.underlying3
  a22 := Try.isAgg3
  z22 := Try.sizeOf3
  v22 := Try.zeroValue3 }
def Try.lkeys_ren : Go.Shelf.Ren := ⟨fun | 7 => 34 | 10 => 43 | n => n, fun | 23 => 51 | 26 => 3 | 3 => 3 | 28 => 55 | 0 => 0 | 27 => 54 | 33 => 50 | 4 => 4 | n => n, fun | n => n⟩
theorem Try.lkeys : Go.Proofs.SlLaysZI.n7 Try.prog Try.lkeys_ren := {
  mixed := by kernel_rfl
  f7 := ⟨Try.f34.name, by decide, Try.func34.trans (congrArg some (by kernel_rfl))⟩
  f10 := ⟨Try.f43.name, by decide, Try.func43.trans (congrArg some (by kernel_rfl))⟩
  t0 := Try.underlying0
  a0 := Try.isAgg0
  z0 := Try.sizeOf0
  v0 := Try.zeroValue0
  t4 := Try.underlying4
  a4 := Try.isAgg4
  z4 := Try.sizeOf4
  v4 := Try.zeroValue4
  t23 := Try.underlying51
  a23 := Try.isAgg51
  z23 := Try.sizeOf51
  v23 := Try.zeroValue51
  t26 := Try.underlying3
  a26 := Try.isAgg3
  z26 := Try.sizeOf3
  v26 := Try.zeroValue3
  t27 := Try.underlying54
  a27 := Try.isAgg54
  z27 := Try.sizeOf54
  v27 := Try.zeroValue54
  t28 := Try.underlying55
  a28 := Try.isAgg55
  z28 := Try.sizeOf55
  v28 := Try.zeroValue55
  t33 := Try.underlying50
  a33 := Try.isAgg50
  z33 := Try.sizeOf50
  v33 := Try.zeroValue50 }
def Try.lsorted_ren : Go.Shelf.Ren := ⟨fun | 6 => 33 | 8 => 41 | 9 => 42 | 11 => 49 | 13 => 46 | 12 => 50 | 23 => 59 | 24 => 60 | 14 => 62 | 15 => 63 | 16 => 64 | 17 => 65 | 18 => 66 | 19 => 67 | 20 => 68 | 21 => 69 | 22 => 70 | 25 => 76 | 26 => 72 | 27 => 73 | 28 => 77 | 29 => 78 | 30 => 61 | 31 => 80 | n => n, fun | 26 => 3 | 28 => 55 | 24 => 44 | 0 => 0 | 3 => 3 | 37 => 73 | 48 => 87 | 50 => 89 | 4 => 4 | 40 => 80 | 39 => 79 | 45 => 84 | 5 => 5 | 9 => 9 | 51 => 96 | 55 => 100 | 57 => 104 | 58 => 105 | 33 => 50 | n => n, fun | n => n⟩
theorem Try.lsorted : Go.Proofs.SlLaysZI.n6 Try.prog Try.lsorted_ren := {
  mixed := by kernel_rfl
  f6 := ⟨Try.f33.name, by decide, Try.func33.trans (congrArg some (by kernel_rfl))⟩
  f8 := ⟨Try.f41.name, by decide, Try.func41.trans (congrArg some (by kernel_rfl))⟩
  f11 := ⟨Try.f49.name, by decide, Try.func49.trans (congrArg some (by kernel_rfl))⟩
  t0 := Try.underlying0
  a0 := Try.isAgg0
  z0 := Try.sizeOf0
  v0 := Try.zeroValue0
  t24 := Try.underlying44
  a24 := Try.isAgg44
  z24 := Try.sizeOf44
  v24 := Try.zeroValue44
  t26 := Try.underlying3
  a26 := Try.isAgg3
  z26 := Try.sizeOf3
  v26 := Try.zeroValue3
  t28 := Try.underlying55
  a28 := Try.isAgg55
  z28 := Try.sizeOf55
  v28 := Try.zeroValue55
  i26 := by kernel_rfl }
def Try.lsortI_ren : Go.Shelf.Ren := ⟨fun | 5 => 42 | 8 => 46 | 7 => 50 | 19 => 59 | 20 => 60 | 10 => 62 | 11 => 63 | 12 => 64 | 13 => 65 | 14 => 66 | 15 => 67 | 16 => 68 | 17 => 69 | 18 => 70 | 30 => 76 | 31 => 72 | 32 => 73 | 33 => 77 | 34 => 78 | 35 => 61 | 40 => 80 | n => n, fun | 23 => 44 | 25 => 3 | 3 => 3 | 32 => 73 | 22 => 44 | 0 => 0 | 44 => 87 | 46 => 89 | 4 => 4 | 36 => 80 | 35 => 79 | 41 => 84 | 5 => 5 | 9 => 9 | 53 => 96 | 57 => 100 | 63 => 104 | 64 => 105 | n => n, fun | n => n⟩
theorem Try.lsortI : Go.Proofs.SlLaysM.n5 Try.prog Try.lsortI_ren := {
  mixed := by kernel_rfl
  f5 := ⟨Try.f42.name, by decide, Try.func42.trans (congrArg some (by kernel_rfl))⟩
  f7 := ⟨Try.f50.name, by decide, Try.func50.trans (congrArg some (by kernel_rfl))⟩
  f8 := Try.func46.trans (congrArg some (by kernel_rfl))
  f10 := ⟨Try.f62.name, by decide, Try.func62.trans (congrArg some (by kernel_rfl))⟩
  f11 := ⟨Try.f63.name, by decide, Try.func63.trans (congrArg some (by kernel_rfl))⟩
  f12 := ⟨Try.f64.name, by decide, Try.func64.trans (congrArg some (by kernel_rfl))⟩
  f13 := ⟨Try.f65.name, by decide, Try.func65.trans (congrArg some (by kernel_rfl))⟩
  f14 := ⟨Try.f66.name, by decide, Try.func66.trans (congrArg some (by kernel_rfl))⟩
  f15 := ⟨Try.f67.name, by decide, Try.func67.trans (congrArg some (by kernel_rfl))⟩
  f16 := ⟨Try.f68.name, by decide, Try.func68.trans (congrArg some (by kernel_rfl))⟩
  f17 := ⟨Try.f69.name, by decide, Try.func69.trans (congrArg some (by kernel_rfl))⟩
  f18 := ⟨Try.f70.name, by decide, Try.func70.trans (congrArg some (by kernel_rfl))⟩
  f19 := Try.func59.trans (congrArg some (by kernel_rfl))
  f20 := Try.func60.trans (congrArg some (by kernel_rfl))
  f30 := ⟨Try.f76.name, by decide, Try.func76.trans (congrArg some (by kernel_rfl))⟩
  f31 := Try.func72.trans (congrArg some (by kernel_rfl))
  f32 := Try.func73.trans (congrArg some (by kernel_rfl))
  f33 := ⟨Try.f77.name, by decide, Try.func77.trans (congrArg some (by kernel_rfl))⟩
  f34 := ⟨Try.f78.name, by decide, Try.func78.trans (congrArg some (by kernel_rfl))⟩
  f35 := ⟨Try.f61.name, by decide, Try.func61.trans (congrArg some (by kernel_rfl))⟩
  f40 := ⟨Try.f80.name, by decide, Try.func80.trans (congrArg some (by kernel_rfl))⟩
  t0 := Try.underlying0
  a0 := Try.isAgg0
  z0 := Try.sizeOf0
  v0 := Try.zeroValue0
  t3 := Try.underlying3
  a3 := Try.isAgg3
  z3 := Try.sizeOf3
  v3 := Try.zeroValue3
  t4 := Try.underlying4
  a4 := Try.isAgg4
  z4 := Try.sizeOf4
  v4 := Try.zeroValue4
  t5 := Try.underlying5
  a5 := Try.isAgg5
  z5 := Try.sizeOf5
  v5 := Try.zeroValue5
  t9 := Try.underlying9
  a9 := Try.isAgg9
  z9 := Try.sizeOf9
  v9 := Try.zeroValue9
  t22 := Try.underlying44
  a22 := Try.isAgg44
  z22 := Try.sizeOf44
  v22 := Try.zeroValue44
  t23 := Try.underlying44
  a23 := Try.isAgg44
  z23 := Try.sizeOf44
  v23 := Try.zeroValue44
  t25 := Try.underlying3
  a25 := Try.isAgg3
  z25 := Try.sizeOf3
  v25 := Try.zeroValue3
  t32 := Try.underlying73
  a32 := Try.isAgg73
  z32 := Try.sizeOf73
  v32 := Try.zeroValue73
  t35 := Try.underlying79
  a35 := Try.isAgg79
  z35 := Try.sizeOf79
  v35 := Try.zeroValue79
  t36 := Try.underlying80
  a36 := Try.isAgg80
  z36 := Try.sizeOf80
  v36 := Try.zeroValue80
  t41 := Try.underlying84
  a41 := Try.isAgg84
  z41 := Try.sizeOf84
  v41 := Try.zeroValue84
  t44 := Try.underlying87
  a44 := Try.isAgg87
  z44 := Try.sizeOf87
  v44 := Try.zeroValue87
  t46 := Try.underlying89
  a46 := Try.isAgg89
  z46 := Try.sizeOf89
  v46 := Try.zeroValue89
  t53 := Try.underlying96
  a53 := Try.isAgg96
  z53 := Try.sizeOf96
  v53 := Try.zeroValue96
  t57 := Try.underlying100
  a57 := Try.isAgg100
  z57 := Try.sizeOf100
  v57 := Try.zeroValue100
  t63 := Try.underlying104
  a63 := Try.isAgg104
  z63 := Try.sizeOf104
  v63 := Try.zeroValue104
  t64 := Try.underlying105
  a64 := Try.isAgg105
  z64 := Try.sizeOf105
  v64 := Try.zeroValue105 }
end Go.Proofs

/-
  cmp.Or at two numbers; the comparison of two parts, with the world behind it. Conditions: those of each theorem.
-/
set_option linter.unusedVariables false
set_option linter.unusedSimpArgs false
namespace Go.Proofs.Ythpjlkpkhlkhbaa
open Go.DL Go.RowKit Go.Shelf Go.Sort
attribute [local go_sem] Oper.semAt_some
set_option maxRecDepth 100000
def orI (a b : Int) : Int := if a = 0 then b else a
theorem ft3 : Try.prog.underlying 3 = some (TypeDesc.int IntKind.i64) := by kernel_rfl
theorem ft22 : Try.prog.underlying 44 = some (TypeDesc.slice 3) := by kernel_rfl
theorem ftmixed : Try.prog.follows .mixedOrders = true := by kernel_rfl
set_option maxHeartbeats 4000000 in
theorem or_calls (b : Nat) (c1 c2 : Int) (w : World) (h0 : w.cell? ⟨b, 0, none⟩ = some (.int .i64 c1)) (h1 : w.cell? ⟨b, 1, none⟩ = some (.int .i64 c2)) :
    Calls Try.prog 47 #[.slice (some ⟨b, 0, none⟩) 2 2] w fun e w' => e = .returned (.int .i64 (orI c1 c2)) ∧ w' = w := by
  refine (callsIn_wide (n := 0)).1 (callsIn_of_wp Try.func47 rfl trivial ?_ rfl)
  simp only [Try.ntmps47, List.size_toArray, List.length_cons, List.length_nil, Nat.reduceAdd, Nat.reduceSub, Array.replicate_succ, Array.replicate_zero, List.push_toArray, List.append_toArray, List.nil_append, List.cons_append]
  have u3 := run_underlying (P := Try.prog) ft3; have u22 := run_underlying (P := Try.prog) ft22
  gi_wp2
  gi_loopw [8] (fun i wr => ∃ k : Nat, k ≤ 2 ∧ i = .int .i64 k ∧ wr = w ∧ (1 ≤ k → c1 = 0) ∧ (2 ≤ k → c2 = 0))
    (fun i _ => 2 - (vInt i).toNat)
  case atStart => exact ⟨0, by omega, rfl, rfl, by omega, by omega⟩
  case round =>
    obtain ⟨k, hk, rfl, rfl, hz1, hz2⟩ := hrel
    match k, hk with
    | 0, _ =>
      gi_wp2
      · go_ret
        rename_i hne
        have e : orI c1 c2 = c1 := by have : c1 ≠ 0 := by simpa using hne
                                      simp [orI, this]
        exact ⟨by rw [e]; rfl, rfl⟩
      · rename_i he
        exact ⟨⟨1, by omega, rfl, trivial, fun _ => by simpa using he, by omega⟩, by simp [vInt]⟩
    | 1, _ =>
      gi_wp2
      · go_ret
        have e : orI c1 c2 = c2 := by simp [orI, hz1 (by omega)]
        exact ⟨by rw [e]; rfl, rfl⟩
      · rename_i he
        exact ⟨⟨2, by omega, rfl, trivial, fun _ => hz1 (by omega), fun _ => by simpa using he⟩, by simp [vInt]⟩
    | 2, _ =>
      gi_wp2
      go_ret
      have e : orI c1 c2 = 0 := by simp [orI, hz1 (by omega), hz2 (by omega)]
      exact ⟨by rw [e]; rfl, rfl⟩
def cfP (x y : Part) : Int := orI (Lib.compareInt y.r x.r) (Lib.compareInt x.i y.i)
set_option maxHeartbeats 4000000 in
theorem before_calls (x y : Part) (W : World) : Calls Try.prog 38 #[.agg #[.int .i64 x.i, .int .i64 x.c, .int .i64 x.r], .agg #[.int .i64 y.i, .int .i64 y.c, .int .i64 y.r]] W fun e w' => e = .returned (.int .i64 (cfP x y)) ∧ ∃ q os', w' = grow (W.drewN q) os' := by
  have hcon := fun a b W' => AnyG.cmp_Compare_int Try.lcmp a b W'
  change ∀ a b W', Calls Try.prog 48 _ _ _ at hcon
  have mixed := ftmixed
  have u3 := run_underlying (P := Try.prog) ft3; have u22 := run_underlying (P := Try.prog) ft22
  unfold cfP
  generalize e1 : Lib.compareInt y.r x.r = r1
  generalize e2 : Lib.compareInt x.i y.i = r2
  go_enter Try.func38, Try.ntmps38
  go_wp2_with (first | (go_at_call 48; refine (hcon _ _ _).mono ?_; rintro e w' ⟨rfl, rfl⟩) | (go_at_call 47; refine (or_calls _ r1 r2 _ ?_ ?_).mono ?_; rintro e w' ⟨rfl, rfl⟩))
  refine wp_region_still_tail 10 mixed (by kernel_rfl) ?_
  simp only [List.take_succ_cons, List.take_zero, List.drop_succ_cons, List.drop_zero]
  change wpStill _ _ (World.drew _) _ _ _
  change wpStill _ _ (World.drew ((W.alloc (.cells #[.int .i64 x.i, .int .i64 x.c, .int .i64 x.r] 64)).alloc (.cells #[.int .i64 y.i, .int .i64 y.c, .int .i64 y.r] 64))) (fun a' => wpList _ _ _ _ _ (World.drew ((W.alloc (.cells #[.int .i64 x.i, .int .i64 x.c, .int .i64 x.r] 64)).alloc (.cells #[.int .i64 y.i, .int .i64 y.c, .int .i64 y.r] 64)))) _ _
  obtain ⟨W3, hW3⟩ : ∃ W3, World.drew ((W.alloc (.cells #[.int .i64 x.i, .int .i64 x.c, .int .i64 x.r] 64)).alloc (.cells #[.int .i64 y.i, .int .i64 y.c, .int .i64 y.r] 64)) = W3 := ⟨_, rfl⟩
  rw [hW3]
  have f0 : W3.cell? ⟨W.heap.size, 0, none⟩ = some (.int .i64 x.i) := by rw [← hW3]; simp
  have f2 : W3.cell? ⟨W.heap.size, 2, none⟩ = some (.int .i64 x.r) := by rw [← hW3]; simp
  have k0 : W3.cell? ⟨W.heap.size + 1, 0, none⟩ = some (.int .i64 y.i) := by rw [← hW3]; simp
  have k2 : W3.cell? ⟨W.heap.size + 1, 2, none⟩ = some (.int .i64 y.r) := by rw [← hW3]; simp
  have hgr : ∃ q os', W3 = grow (W.drewN q) os' := ⟨1, _, by rw [← hW3, alloc_eq_grow, alloc_eq_grow, grow_grow]; rfl⟩
  clear hW3
  repeat (first | still_step | still_call (hcon _ _ _))
  refine wpStill_nil ?_
  go_wp2_with (go_at_call 47; refine (or_calls _ r1 r2 _ (by simp) (by simp)).mono ?_; rintro e w' ⟨rfl, rfl⟩)
  go_ret
  obtain ⟨q0, os0, rfl⟩ := hgr
  exact ⟨rfl, q0, _, by rw [alloc_eq_grow, grow_grow]⟩
end Go.Proofs.Ythpjlkpkhlkhbaa

/-
  slices.SortFunc at the parts of an amount: what money.Split's walk asks. Conditions: those of each theorem.
-/
set_option linter.unusedVariables false
set_option linter.unusedSimpArgs false
namespace Go.Proofs.Ythpjlkpkhlkhbaa
open Go.DL Go.RowKit Go.Shelf Go.Sort
instance : Inhabited Part := ⟨⟨0, 0, 0⟩⟩
def encK (p : Part) : List Value := [.int .i64 p.i, .int .i64 p.c, .int .i64 p.r]
theorem lt_ahead (x y : Part) : ltOf cfP x y = ahead x y := by
  unfold ltOf cfP orI Lib.compareInt ahead
  by_cases h1 : y.r < x.r
  · simp [h1]
  · by_cases h2 : x.r < y.r
    · have h3 : ¬ x.r = y.r := by omega
      simp [h1, h2, h3]
    · have h3 : x.r = y.r := by omega
      by_cases h4 : x.i < y.i
      · simp [h1, h2, h3, h4]
      · by_cases h5 : y.i < x.i <;> simp [h1, h2, h3, h4, h5]
theorem swoP : SWO (ltOf cfP) where
  irrefl x := by rw [lt_ahead]; simp [ahead]
  trans x y z h1 h2 := by
    rw [lt_ahead] at *
    simp only [ahead, Bool.or_eq_true, Bool.and_eq_true, decide_eq_true_eq] at *
    omega
  ntrans x y z h1 h2 := by
    rw [lt_ahead] at *
    simp only [ahead, Bool.or_eq_false_iff, Bool.and_eq_false_iff, decide_eq_false_iff_not] at *
    omega
theorem flatK_row (d : List Part) : (flatK encK 3 d.toArray).toList = rowV (d.map encPart) := by
  have hu : ∀ e ∈ d.map encPart, e.cells.length = 3 := fun e he => by obtain ⟨x, _, rfl⟩ := List.mem_map.1 he; rfl
  apply List.ext_getElem?
  intro t
  by_cases ht : t < d.length * 3
  · have hk : t / 3 < d.length := by omega
    have h1 : (d.map encPart)[t / 3]? = some (encPart d[t / 3]) := by rw [List.getElem?_map, List.getElem?_eq_getElem hk]; rfl
    have hsz : (flatK encK 3 d.toArray).size = d.length * 3 := by simp
    have h2 : (flatK encK 3 d.toArray).toList[t]? = some ((encK d[t / 3])[t % 3]!) := by
      rw [Array.getElem?_toList, Array.getElem?_eq_getElem (by rw [hsz]; exact ht)]
      have := get_flatK encK 3 d.toArray t (by simpa using ht)
      rw [getElem!_pos _ t (by rw [hsz]; exact ht)] at this
      rw [this, getElem!_pos d.toArray (t / 3) (by simpa using hk)]
      simp
    rw [h2, rowV, List.getElem?_map]
    have h3 : ∀ j c, (encPart d[t / 3]).cells[j]? = some c → (flat (d.map encPart))[t / 3 * 3 + j]? = some c := fun j c hj => flat_get (sz := 3) hu h1 hj
    have h4 : t = t / 3 * 3 + t % 3 := by omega
    clear h2 h1 hsz
    generalize d[t / 3] = q at h3 ⊢
    have h5 : t % 3 < 3 := Nat.mod_lt _ (by decide)
    generalize hm : t % 3 = m at h4 h5 ⊢
    rw [h4]
    match m, h5 with
    | 0, _ => rw [h3 0 _ rfl]; rfl
    | 1, _ => rw [h3 1 _ rfl]; rfl
    | 2, _ => rw [h3 2 _ rfl]; rfl
  · rw [List.getElem?_eq_none (by simp; omega), List.getElem?_eq_none (by rw [rowV, List.length_map, flat_length _ hu, List.length_map]; omega)]
theorem cmp_lays (blk off size : Nat) (w : World) : CmpLays Try.prog 38 #[] encK 3 cfP blk off size w := fun _ _ _ _ x y => before_calls x y _
theorem take_put (cur F : Array Value) (h : F.size ≤ cur.size) : (putCells id 0 F cur).toList.take F.size = F.toList := by
  apply List.ext_getElem?
  intro j
  by_cases hj : j < F.size
  · rw [List.getElem?_take_of_lt hj, Array.getElem?_toList]
    simp [putCells, hj, show j < cur.size by omega]
  · rw [List.getElem?_take_eq_none (by omega), List.getElem?_eq_none (by simp; omega)]
theorem sort_ok : SortOK Try.prog 37 38 64 3 encPart sortR := by
  refine ⟨⟨Try.f37, by kernel_rfl, by kernel_rfl, by kernel_rfl⟩, ?_⟩
  intro w blk cap cur d hne hlt hb hcap hmax hcs htk
  have hblk := (Array.getElem?_eq_some_iff.1 hb).1
  have hF : (flatK encK 3 d.toArray).size = d.length * 3 := by simp
  have hcur : d.length * 3 ≤ cur.size := by rw [hcs]; exact Nat.mul_le_mul_right _ hcap
  have hH : HoldsK encK 3 w blk 0 d.toArray := by
    intro j hj
    rw [hF] at hj
    refine ⟨?_, by simp [World.frozen?, hb]⟩
    have h1 : (cur.toList.take (d.length * 3))[j]? = (flatK encK 3 d.toArray).toList[j]? := by rw [htk, flatK_row]
    rw [List.getElem?_take_of_lt hj] at h1
    simp only [World.cell?, hb, Nat.zero_add, Option.isSome_none, Bool.false_eq_true, if_false]
    rw [← Array.getElem?_toList, h1, Array.getElem?_toList, Array.getElem?_eq_getElem (by rw [hF]; exact hj), getElem!_pos _ j (by rw [hF]; exact hj)]
    rfl
  have hcon := AnyQ.slices_SortFunc Try.lsort 3 Try.isAgg64 Try.sizeOf64 encK (fun _ => rfl) (fun x v hv => by simp [encK] at hv; rcases hv with rfl | rfl | rfl <;> rfl) cfP swoP 38 #[] blk 0 cap d.toArray w
    (enters_of Try.func38 (by kernel_rfl) rfl) (cmp_lays blk 0 _ w) hH hblk (by simpa using hlt)
  simp only [List.size_toArray] at hcon
  refine hcon.mono ?_
  rintro e w' ⟨rfl, d', n, os, hp, hs, rfl⟩
  have hsz : d'.size = d.length := by simpa using hp.1
  have hF' : (flatK encK 3 d').size = d.length * 3 := by simp [hsz]
  refine ⟨rfl, d'.toList, putCells id 0 (flatK encK 3 d') cur, ⟨?_, ?_⟩, by simpa using hsz, ⟨rfl, rfl, rfl, by simp [sortWorldK, putRowK], fun k hk hne' => ?_⟩, ?_, by simp [putCells], ?_⟩
  · have := hp.2.2
    rw [Array.extract_eq_self_of_le (by omega), Array.extract_eq_self_of_le (by simp)] at this
    simpa using this
  · rw [List.pairwise_iff_getElem]
    intro i j hi hj hij
    have := hs i j (Nat.zero_le _) hij (by simpa [hsz] using hj)
    rw [lt_ahead, getElem!_pos d' j (by simpa using hj), getElem!_pos d' i (by simpa using hi)] at this
    simpa using this
  · unfold sortWorldK putRowK
    rw [heap_grow_old _ _ (by simpa using hk)]
    have : blk ≠ k := fun e => hne' (by rw [e])
    simp [putRow, mapBlock, Sort.ahead, Array.getElem?_modify, this]
  · unfold sortWorldK putRowK
    rw [heap_grow_old _ _ (by simpa using hblk)]
    simp [putRow, mapBlock, Sort.ahead, Array.getElem?_modify, hb, onCells]
  · have := take_put cur (flatK encK 3 d') (by rw [hF']; exact hcur)
    rw [hF'] at this
    rw [this]
    have := flatK_row d'.toList
    rwa [Array.toArray_toList] at this
end Go.Proofs.Ythpjlkpkhlkhbaa

/-
  Walks at the data level, printed by gen.py: what each Go function returns, for data that reads as said. Conditions: those of each theorem.
-/
namespace Go.Proofs.Ythpjlkpkhlkhbaa
open Go.DL
set_option maxRecDepth 100000
set_option linter.unusedVariables false
set_option linter.unusedSimpArgs false
theorem ret_cloneI (l : List Int) (hl : l.length ≤ 100000) : Ret Try.prog 39 [(.sl 1 (l.map encI))] (.sl 1 (l.map encI)) := by
  refine Ret.of_T Try.func39 (by kernel_rfl) rfl ?_
  refine T_turn [] [0] [] (mk 8 [(0, (dt (.sl 1 (l.map encI))))] []) (by kernel_rfl) ?_
  refine T_reg [] [0] [] (mk 8 [(0, (dt (.sl 1 (l.map encI))))] []) (True ∧ True ∧ True) (by kernel_rfl) ⟨trivial, trivial, trivial⟩ ?_
  refine T_seq ?_
  refine T_seq (T_parts ?_)
  refine TL_part 1 [] (mk 8 [(0, (dt (.sl 1 (l.map encI)))), (3, (dt (.sl 1 (l.map encI))))] []) (True ∧ True ∧ True) (by kernel_rfl) ⟨trivial, trivial, trivial⟩ rfl ?_
  refine TL_nil (sz := 1) (es := l.map encI) rfl rfl ⟨3, by kernel_rfl⟩ (by kernel_rfl) (fun b1 hb2 => ?_)
  rcases b1 with _ | _
  · skip
    refine TL_nilQ ?_
    refine T_turn [] [0, 4] [] (mk 8 [(0, (dt (.sl 1 (l.map encI)))), (4, (dt (B false)))] []) (by kernel_rfl) ?_
    refine T_cond false (by kernel_rfl) (fun h => absurd (h.symm.trans rfl) (by decide)) (fun _ => ?_)
    refine T_skip ?_
    refine T_reg [{}, {}, { d := some (.sl 1 (l.map encI)) }] [2] [] (mk 8 [(2, (.one (.own 7)))] [(7, (.row 3 1 (l.map encI)))]) (True ∧ (dfill (fun i => some (i * 1, 1)) (List.replicate (0 * 1) .junk) [] = some ((flat (([] : List Int).map encI)).map .dat)) ∧ True ∧ True ∧ True ∧ (((([] : List Int).map encI).length + (l.map encI).length) * 8 ≤ 140737488355328 ∧ cellsOne (l.map encI) ∧ (([] : List Int).map encI) ++ l.map encI = l.map encI) ∧ True ∧ True ∧ True) (by kernel_rfl) ⟨trivial, rfl, trivial, trivial, trivial, ⟨by simp only [List.length_map, List.length_nil, List.length_cons]; omega, encI_one _, by simp⟩, trivial, trivial, trivial⟩ ?_
    refine T_ret ?_
    exact ret_here [(.one (.own 7))] (by kernel_rfl) rfl
  · skip
    have nil3 : l = [] := by simpa using hb2 rfl
    refine TL_nilQ ?_
    refine T_turn [] [0, 4] [] (mk 8 [(0, (dt (.sl 1 (l.map encI)))), (4, (dt (B true)))] []) (by kernel_rfl) ?_
    refine T_cond true (by kernel_rfl) (fun _ => ?_) (fun h => absurd (h.symm.trans rfl) (by decide))
    refine T_reg [] [2] [] (mk 8 [(2, (dt nilS))] []) (True ∧ True ∧ True) (by kernel_rfl) ⟨trivial, trivial, trivial⟩ ?_
    refine T_ret ?_
    exact ret_here [(dt nilS)] (by kernel_rfl) (.inr ⟨rfl, 1, (by show D.sl _ _ = _; exact congrArg (fun l => D.sl 1 (l.map encI)) (by simp_all : l = []))⟩)

theorem ret_parts (a n : Int) (ws : List Int) : Ret Try.prog 36 [(I a), (.sl 1 (ws.map encI)), (I n)] (.fn 44 [(.ptr [(.sl 1 (ws.map encI))]), (.ptr [(I a)]), (.ptr [(I n)])]) := by
  refine Ret.of_T Try.func36 (by kernel_rfl) rfl ?_
  refine T_turn [] [0, 1, 2] [] (mk 8 [(0, (dt (I a))), (1, (dt (.sl 1 (ws.map encI)))), (2, (dt (I n)))] []) (by kernel_rfl) ?_
  refine T_reg [] [3, 4, 5] [] (mk 8 [(3, (.one (.ref 3 0))), (4, (.one (.ref 4 0))), (5, (.one (.ref 5 0)))] [(5, (.var [(.dat (I n))])), (4, (.var [(.dat (.sl 1 (ws.map encI)))])), (3, (.var [(.dat (I a))]))]) (True ∧ True ∧ True ∧ True ∧ True ∧ True ∧ True ∧ True ∧ True) (by kernel_rfl) ⟨trivial, trivial, trivial, trivial, trivial, trivial, trivial, trivial, trivial⟩ ?_
  refine T_turn [3, 4, 5] [3, 4, 5] [] (mk 8 [(3, (dt (.ptr [(I a)]))), (4, (dt (.ptr [(.sl 1 (ws.map encI))]))), (5, (dt (.ptr [(I n)])))] []) (by kernel_rfl) ?_
  refine T_reg [] [6] [] (mk 8 [(6, (.one (.fn 44 [.inr (.ptr [(.sl 1 (ws.map encI))]), .inr (.ptr [(I a)]), .inr (.ptr [(I n)])])))] []) (True ∧ True ∧ True ∧ True ∧ True) (by kernel_rfl) ⟨trivial, trivial, trivial, trivial, trivial⟩ ?_
  refine T_ret ?_
  exact ret_here [(.one (.fn 44 [.inr (.ptr [(.sl 1 (ws.map encI))]), .inr (.ptr [(I a)]), .inr (.ptr [(I n)])]))] (by kernel_rfl) rfl

theorem ret_split (a : Int) (ws : List Int) (ha : 0 ≤ a) (ha2 : a ≤ 1125899906842624) (hw : ∀ x ∈ ws, 0 ≤ x ∧ x ≤ 1000) (hl : ws.length ≤ 256) (hs : 0 < sumL 0 ws) : Ret Try.prog 25 [(I a), (.sl 1 (ws.map encI))] (.tup [(.sl 1 ((splitW a (sumL 0 ws) ws).map encI)), (I 0)]) := by
  refine Ret.of_T Try.func25 (by kernel_rfl) rfl ?_
  refine T_turn [] [0, 1] [] (mk 89 [(0, (dt (I a))), (1, (dt (.sl 1 (ws.map encI))))] []) (by kernel_rfl) ?_
  refine T_reg [] [0, 1] [] (mk 89 [(0, (dt (I a))), (1, (dt (.sl 1 (ws.map encI))))] []) (True ∧ True ∧ True ∧ True ∧ True) (by kernel_rfl) ⟨trivial, trivial, trivial, trivial, trivial⟩ ?_
  refine T_seq ?_
  refine T_reg [{}, { d := some (I (chkM a)) }] [0, 1, 18] [] (mk 89 [(0, (dt (I a))), (1, (dt (.sl 1 (ws.map encI)))), (18, (dt (B ((chkM a) != 0))))] []) (True ∧ True ∧ True ∧ (Ret Try.prog 35 [(I a)] (I (chkM a))) ∧ True ∧ True ∧ True) (by kernel_rfl) ⟨trivial, trivial, trivial, (ret_chkM _), trivial, trivial, trivial⟩ ?_
  refine T_cond ((chkM a) != 0) (by kernel_rfl) (fun h1 => ?_) (fun h1 => ?_)
  · skip
    have g2 : (chkM a) ≠ 0 := bne_iff_ne.1 (h1)
    exact (by exfalso; have := chkM_cases a; have h0 := sumL_nil ws; first | omega | (have := sumL_end iv (by omega); omega))
  · skip
    have g3 : (chkM a) = 0 := bne_f (h1)
    refine T_skip ?_
    refine T_seq ?_
    refine T_reg [{}, { d := some (I ((ws.length : Nat) : Int)) }] [0, 1, 21] [] (mk 89 [(0, (dt (I a))), (1, (dt (.sl 1 (ws.map encI)))), (21, (dt (B (decide (((ws.length : Nat) : Int) > 256)))))] []) (True ∧ True ∧ True ∧ (True ∧ D.int .i64 ((ws.map encI).length : Int) = (I ((ws.length : Nat) : Int))) ∧ True ∧ True ∧ True) (by kernel_rfl) ⟨trivial, trivial, trivial, ⟨trivial, by rw [List.length_map]⟩, trivial, trivial, trivial⟩ ?_
    refine T_cond (decide (((ws.length : Nat) : Int) > 256)) (by kernel_rfl) (fun h4 => ?_) (fun h4 => ?_)
    · skip
      have g5 : ((ws.length : Nat) : Int) > 256 := of_decide_eq_true (h4)
      exact (by exfalso; have := chkM_cases a; have h0 := sumL_nil ws; first | omega | (have := sumL_end iv (by omega); omega))
    · skip
      have g6 : ¬ (((ws.length : Nat) : Int) > 256) := of_decide_eq_false (h4)
      refine T_skip ?_
      refine T_reg [] [0, 1, 6] [] (mk 89 [(0, (dt (I a))), (1, (dt (.sl 1 (ws.map encI)))), (6, (dt (I 0)))] []) (True ∧ True ∧ True) (by kernel_rfl) ⟨trivial, trivial, trivial⟩ ?_
      refine T_seq ?_
      refine T_reg [{}, { d := some (I ((ws.length : Nat) : Int)) }] [0, 1, 6, 22, 23, 24] [] (mk 89 [(0, (dt (I a))), (1, (dt (.sl 1 (ws.map encI)))), (6, (dt (I 0))), (22, (dt (.sl 1 (ws.map encI)))), (23, (dt (I ((ws.length : Nat) : Int)))), (24, (dt (I 0)))] []) (True ∧ True ∧ True ∧ (True ∧ D.int .i64 ((ws.map encI).length : Int) = (I ((ws.length : Nat) : Int))) ∧ True ∧ True ∧ True) (by kernel_rfl) ⟨trivial, trivial, trivial, ⟨trivial, by rw [List.length_map]⟩, trivial, trivial, trivial⟩ ?_
      refine T_block ?_
      refine T_turn [] [0, 1, 6, 22, 23, 24] [] ((fun ((k, n) : Nat × Int) => (mk 89 [(0, (dt (I a))), (1, (dt (.sl 1 (ws.map encI)))), (6, (dt (I n))), (22, (dt (.sl 1 (ws.map encI)))), (23, (dt (I ((ws.length : Nat) : Int)))), (24, (dt (I ((k : Nat) : Int))))] [])) (0, 0)) (by kernel_rfl) (T_loop (α := Nat × Int) (fun ((k, n) : Nat × Int) => (mk 89 [(0, (dt (I a))), (1, (dt (.sl 1 (ws.map encI)))), (6, (dt (I n))), (22, (dt (.sl 1 (ws.map encI)))), (23, (dt (I ((ws.length : Nat) : Int)))), (24, (dt (I ((k : Nat) : Int))))] [])) (fun ((k, n) : Nat × Int) => (k ≤ (ws).length) ∧ (sumL n (ws.drop k) = sumL 0 ws) ∧ (0 ≤ n ∧ n ≤ 1000 * (k : Int)) ∧ True) (fun ((k, n) : Nat × Int) => (ws).length - k) (0, 0) ⟨Nat.zero_le _, rfl, ⟨Int.le_refl _, by simp⟩, trivial⟩ ?_)
      rintro ⟨k, n⟩ ⟨ik, iv, ib, _⟩
      refine T_reg [] [0, 1, 6, 22, 23, 24, 25] [] (mk 89 [(0, (dt (I a))), (1, (dt (.sl 1 (ws.map encI)))), (6, (dt (I n))), (22, (dt (.sl 1 (ws.map encI)))), (23, (dt (I ((ws.length : Nat) : Int)))), (24, (dt (I ((k : Nat) : Int)))), (25, (dt (B (decide (((k : Nat) : Int) < ((ws.length : Nat) : Int))))))] []) (True ∧ True ∧ True) (by kernel_rfl) ⟨trivial, trivial, trivial⟩ ?_
      refine T_seq ?_
      refine T_cond (decide (((k : Nat) : Int) < ((ws.length : Nat) : Int))) (by kernel_rfl) (fun h7 => ?_) (fun h7 => ?_)
      · skip
        have g8 : ((k : Nat) : Int) < ((ws.length : Nat) : Int) := of_decide_eq_true (h7)
        refine T_skip ?_
        refine T_seq ?_
        refine T_block ?_
        have lt9 : k < (ws).length := by first | omega | (simp only [List.length_set, List.length_map, List.length_append, List.length_cons, List.length_nil] at *; omega)
        obtain ⟨x10, hx11⟩ : ∃ x, (ws)[k]? = some x := ⟨_, List.getElem?_eq_getElem lt9⟩
        have hwx := hw _ (List.mem_of_getElem? hx11)
        refine T_reg [{ d := some (I x10) }] [0, 1, 6, 8, 22, 23, 24] [] (mk 89 [(0, (dt (I a))), (1, (dt (.sl 1 (ws.map encI)))), (6, (dt (I n))), (8, (dt (I x10))), (22, (dt (.sl 1 (ws.map encI)))), (23, (dt (I ((ws.length : Nat) : Int)))), (24, (dt (I ((k : Nat) : Int))))] []) (True ∧ (0 ≤ ((k : Nat) : Int) ∧ (ws.map encI)[k]? = some (I x10)) ∧ True ∧ True ∧ True ∧ True ∧ True) (by kernel_rfl) ⟨trivial, ⟨by omega, by rw [List.getElem?_map, hx11]; rfl⟩, trivial, trivial, trivial, trivial, trivial⟩ ?_
        refine T_seq ?_
        rcases Bool.eq_false_or_eq_true (decide (x10 < 0)) with h12 | h12
        · skip
          have g13 : x10 < 0 := of_decide_eq_true (h12)
          exact (by exfalso; have := hw _ (List.mem_of_getElem? hx11); omega)
        · skip
          have g14 : ¬ (x10 < 0) := of_decide_eq_false (h12)
          refine T_reg [{}, {}, {}, {}, {}, { d := some (B false) }] [0, 1, 6, 8, 22, 23, 24, 33] [] (mk 89 [(0, (dt (I a))), (1, (dt (.sl 1 (ws.map encI)))), (6, (dt (I n))), (8, (dt (I x10))), (22, (dt (.sl 1 (ws.map encI)))), (23, (dt (I ((ws.length : Nat) : Int)))), (24, (dt (I ((k : Nat) : Int)))), (33, (dt (B (decide (x10 > 1000)))))] []) (True ∧ True ∧ True ∧ True ∧ True ∧ True ∧ (((decide (x10 < 0)) == false) = true) ∧ True ∧ (((decide (x10 < 0)) == false) = true) ∧ True ∧ True ∧ ((decide (x10 < 0)) = false) ∧ True) (by kernel_rfl) ⟨trivial, trivial, trivial, trivial, trivial, trivial, (by rw [show (decide (x10 < 0)) = false from h12]; rfl), trivial, (by rw [show (decide (x10 < 0)) = false from h12]; rfl), trivial, trivial, h12, trivial⟩ ?_
          refine T_cond (decide (x10 > 1000)) (by kernel_rfl) (fun h15 => ?_) (fun h15 => ?_)
          · skip
            have g16 : x10 > 1000 := of_decide_eq_true (h15)
            exact (by exfalso; have := hw _ (List.mem_of_getElem? hx11); omega)
          · skip
            have g17 : ¬ (x10 > 1000) := of_decide_eq_false (h15)
            refine T_skip ?_
            refine T_regE [{}, {}, { d := some (I (n + x10)) }] (mk 89 [(0, (dt (I a))), (1, (dt (.sl 1 (ws.map encI)))), (6, (dt (I (n + x10)))), (8, (dt (I x10))), (22, (dt (.sl 1 (ws.map encI)))), (23, (dt (I ((ws.length : Nat) : Int)))), (24, (dt (I ((k : Nat) : Int)))), (33, (dt (B (decide (x10 > 1000))))), (34, (dt (I n))), (35, (dt (I x10))), (36, (dt (I (n + x10))))] []) (True ∧ True ∧ True ∧ True ∧ True ∧ (IntKind.i64.wrap (n + x10) = (n + x10)) ∧ True ∧ True ∧ True) (by kernel_rfl) ⟨trivial, trivial, trivial, trivial, trivial, (i64_wrap (by omega) (by omega)), trivial, trivial, trivial⟩ ?_
            refine T_regE [{ d := some (I ((k + 1 : Nat) : Int)) }] (mk 89 [(0, (dt (I a))), (1, (dt (.sl 1 (ws.map encI)))), (6, (dt (I (n + x10)))), (8, (dt (I x10))), (22, (dt (.sl 1 (ws.map encI)))), (23, (dt (I ((ws.length : Nat) : Int)))), (24, (dt (I ((k + 1 : Nat) : Int)))), (33, (dt (B (decide (x10 > 1000))))), (34, (dt (I n))), (35, (dt (I x10))), (36, (dt (I (n + x10)))), (37, (dt (I ((k + 1 : Nat) : Int))))] []) (True ∧ (IntKind.i64.wrap (((k : Nat) : Int) + 1) = ((k + 1 : Nat) : Int)) ∧ True ∧ True ∧ True) (by kernel_rfl) ⟨trivial, (by rw [i64_wrap (by omega) (by omega)]; omega), trivial, trivial, trivial⟩ ?_
            refine Exists.intro (k + 1, (n + x10)) ⟨⟨by omega, by rw [← iv, drop_cons hx11]; rfl, by have := hw _ (List.mem_of_getElem? hx11); omega, trivial⟩, by first | omega | (dsimp only; omega), le_turn [] [0, 1, 6, 22, 23, 24] [] (by kernel_rfl)⟩
      · skip
        have g18 : ¬ (((k : Nat) : Int) < ((ws.length : Nat) : Int)) := of_decide_eq_false (h7)
        refine T_exit ?_
        refine T_seq ?_
        refine T_reg [] [0, 1, 6, 39] [] (mk 89 [(0, (dt (I a))), (1, (dt (.sl 1 (ws.map encI)))), (6, (dt (I n))), (39, (dt (B (n == 0))))] []) (True ∧ True ∧ True ∧ True ∧ True) (by kernel_rfl) ⟨trivial, trivial, trivial, trivial, trivial⟩ ?_
        refine T_cond (n == 0) (by kernel_rfl) (fun h19 => ?_) (fun h19 => ?_)
        · skip
          have g20 : n = 0 := eq_of_beq (h19)
          exact (by exfalso; have := chkM_cases a; have h0 := sumL_nil ws; first | omega | (have := sumL_end iv (by omega); omega))
        · skip
          have g21 : n ≠ 0 := ne_of_beq_false (h19)
          refine T_skip ?_
          refine T_reg [] [0, 1, 6, 9] [] (mk 89 [(0, (dt (I a))), (1, (dt (.sl 1 (ws.map encI)))), (6, (dt (I n))), (9, (dt (I 1)))] []) (True ∧ True ∧ True) (by kernel_rfl) ⟨trivial, trivial, trivial⟩ ?_
          refine T_seq ?_
          refine T_reg [] [0, 1, 6, 9, 41] [] (mk 89 [(0, (dt (I a))), (1, (dt (.sl 1 (ws.map encI)))), (6, (dt (I n))), (9, (dt (I 1))), (41, (dt (B (decide (a < 0)))))] []) (True ∧ True ∧ True ∧ True ∧ True) (by kernel_rfl) ⟨trivial, trivial, trivial, trivial, trivial⟩ ?_
          refine T_cond (decide (a < 0)) (by kernel_rfl) (fun h22 => ?_) (fun h22 => ?_)
          · skip
            have g23 : a < 0 := of_decide_eq_true (h22)
            exact (by exfalso; have := chkM_cases a; have h0 := sumL_nil ws; first | omega | (have := sumL_end iv (by omega); omega))
          · skip
            have g24 : ¬ (a < 0) := of_decide_eq_false (h22)
            refine T_skip ?_
            refine T_reg [{}, {}, { d := some (I a) }] [1, 6, 9, 10] [] (mk 89 [(1, (dt (.sl 1 (ws.map encI)))), (6, (dt (I n))), (9, (dt (I 1))), (10, (.one (.ref 10 0)))] [(10, (.var [(.dat (I a))]))]) (True ∧ True ∧ True ∧ True ∧ True ∧ (IntKind.i64.wrap (1 * a) = a) ∧ True ∧ True ∧ True ∧ True ∧ True) (by kernel_rfl) ⟨trivial, trivial, trivial, trivial, trivial, (by rw [Int.one_mul]; exact (i64_wrap (by omega) (by omega))), trivial, trivial, trivial, trivial, trivial⟩ ?_
            refine T_seq (T_parts ?_)
            refine TL_arr 58 11 11 1 ((List.replicate 256 (0 : Int)).map encI) rfl rfl rfl (by kernel_rfl) (by kernel_rfl) (by decide) (by decide) ?_
            refine TL_turn [] [1, 6, 9, 10, 11] [] (mk 89 [(1, (dt (.sl 1 (ws.map encI)))), (6, (dt (I n))), (9, (dt (I 1))), (10, (.one (.ref 10 0))), (11, (.one (.rref 11 0 0)))] [(11, (.row 58 1 ((List.replicate 256 (0 : Int)).map encI))), (10, (.var [(.dat (I a))]))]) (by kernel_rfl) ?_
            refine TL_nilQ ?_
            refine T_turn [] [1, 6, 9, 10, 11] [] (mk 89 [(1, (dt (.sl 1 (ws.map encI)))), (6, (dt (I n))), (9, (dt (I 1))), (10, (.one (.ref 10 0))), (11, (.one (.rref 11 0 0)))] [(11, (.row 58 1 ((List.replicate 256 (0 : Int)).map encI))), (10, (.var [(.dat (I a))]))]) (by kernel_rfl) ?_
            refine T_reg [] [1, 6, 9, 10, 11, 12] [] (mk 89 [(1, (dt (.sl 1 (ws.map encI)))), (6, (dt (I n))), (9, (dt (I 1))), (10, (.one (.ref 10 0))), (11, (.one (.rref 11 0 0))), (12, (.one (.ref 12 0)))] [(12, (.var [(.dat nilS)])), (11, (.row 58 1 ((List.replicate 256 (0 : Int)).map encI))), (10, (.var [(.dat (I a))]))]) (True ∧ True ∧ True) (by kernel_rfl) ⟨trivial, trivial, trivial⟩ ?_
            refine T_seq ?_
            refine T_reg [{}, {}, {}, { d := some (.fn 44 [(.ptr [(.sl 1 (ws.map encI))]), (.ptr [(I a)]), (.ptr [(I n)])]) }] [1, 9, 10, 11, 12, 48] [] (mk 89 [(1, (dt (.sl 1 (ws.map encI)))), (9, (dt (I 1))), (10, (.one (.ref 10 0))), (11, (.one (.rref 11 0 0))), (12, (.one (.ref 12 0))), (48, (dt (.fn 44 [(.ptr [(.sl 1 (ws.map encI))]), (.ptr [(I a)]), (.ptr [(I n)])])))] [(12, (.var [(.dat nilS)])), (11, (.row 58 1 ((List.replicate 256 (0 : Int)).map encI))), (10, (.var [(.dat (I a))]))]) (True ∧ True ∧ True ∧ True ∧ True ∧ True ∧ True ∧ (Ret Try.prog 36 [(I a), (.sl 1 (ws.map encI)), (I n)] (.fn 44 [(.ptr [(.sl 1 (ws.map encI))]), (.ptr [(I a)]), (.ptr [(I n)])])) ∧ True) (by kernel_rfl) ⟨trivial, trivial, trivial, trivial, trivial, trivial, trivial, (ret_parts _ _ _), trivial⟩ ?_
            refine T_block ?_
            refine T_ownCell 12 0 142 64 3 (mk 89 [(1, (dt (.sl 1 (ws.map encI)))), (9, (dt (I 1))), (10, (.one (.ref 10 0))), (11, (.one (.rref 11 0 0))), (12, (.one (.ref 12 0))), (48, (dt (.fn 44 [(.ptr [(.sl 1 (ws.map encI))]), (.ptr [(I a)]), (.ptr [(I n)])])))] [(142, (.row 64 3 (([] : List Part).map encPart))), (12, (.var [(.own 142)])), (11, (.row 58 1 ((List.replicate 256 (0 : Int)).map encI))), (10, (.var [(.dat (I a))]))]) (by kernel_rfl) (by decide) ?_
            refine T_turn [] [1, 9, 10, 11, 12, 48] [] (mk 89 [(1, (dt (.sl 1 (ws.map encI)))), (9, (dt (I 1))), (10, (.one (.ref 10 0))), (11, (.one (.rref 11 0 0))), (12, (.one (.ref 12 0))), (48, (dt (.fn 44 [(.ptr [(.sl 1 (ws.map encI))]), (.ptr [(I a)]), (.ptr [(I n)])])))] [(142, (.row 64 3 (([] : List Part).map encPart))), (12, (.var [(.own 142)])), (11, (.row 58 1 ((List.replicate 256 (0 : Int)).map encI))), (10, (.var [(.dat (I (leftOf a ([] : List Part))))]))]) (by kernel_rfl) ?_
            refine T_range (α := Part) 89 44 [(.ptr [(.sl 1 (ws.map encI))]), (.ptr [(I a)]), (.ptr [(I n)])] valPart (fun x => (.agg [(.dat (I x.i)), (.dat (I x.c)), (.dat (I x.r))])) (partsOf a n ws) (fun pre => (mk 89 [(1, (dt (.sl 1 (ws.map encI)))), (9, (dt (I 1))), (10, (.one (.ref 10 0))), (11, (.one (.rref 11 0 0))), (12, (.one (.ref 12 0))), (48, (dt (.fn 44 [(.ptr [(.sl 1 (ws.map encI))]), (.ptr [(I a)]), (.ptr [(I n)])])))] [(142, (.row 64 3 (pre.map encPart))), (12, (.var [(.own 142)])), (11, (.row 58 1 ((List.replicate 256 (0 : Int)).map encI))), (10, (.var [(.dat (I (leftOf a pre)))]))])) _ (fun x w A M => part_rel x w A M) (by decide) rfl (fun pre _ => by kernel_rfl) (parts_iter a n ws (by have := sumL_end iv (by omega); omega) (by omega) ha ha2 hw hl) (fun r pre x hp25 => ?_) ?_
            · skip
              have hm := part_bounds2 ha ha2 (s := n) (by have := sumL_end iv (by omega); omega) hw hl (fun x hx => by have := le_sumL (fun y hy => (hw y hy).1) hx; have := sumL_end iv (by omega); omega) (prefix_mem hp25)
              have hpl := prefix_len hp25
              have hlf := leftOf_bounds ha ha2 (s := n) (by have := sumL_end iv (by omega); omega) hw hl (fun x hx => by have := le_sumL (fun y hy => (hw y hy).1) hx; have := sumL_end iv (by omega); omega) ((List.prefix_append _ _).trans hp25)
              have hpl2 := partsOf_length a n ws
              refine TI_region (by decide) (TL_turn [] [10, 12, 49] [] (mk 89 [(10, (.one (.ref 10 0))), (12, (.one (.ref 12 0))), (49, (.agg [(.dat (I x.i)), (.dat (I x.c)), (.dat (I x.r))]))] [(142, (.row 64 3 (pre.map encPart))), (12, (.var [(.own 142)])), (11, (.row 58 1 ((List.replicate 256 (0 : Int)).map encI))), (10, (.var [(.dat (I (leftOf a pre)))]))]) (by kernel_rfl) ?_)
              refine TL_part 2 [] (mk 89 [(10, (.one (.ref 10 0))), (12, (.one (.ref 12 0))), (13, (.one (.ref 102 0))), (49, (.agg [(.dat (I x.i)), (.dat (I x.c)), (.dat (I x.r))]))] [(102, (.var [(.dat (I x.i)), (.dat (I x.c)), (.dat (I x.r))])), (142, (.row 64 3 (pre.map encPart))), (12, (.var [(.own 142)])), (11, (.row 58 1 ((List.replicate 256 (0 : Int)).map encI))), (10, (.var [(.dat (I (leftOf a pre)))]))]) (True ∧ True ∧ True ∧ True ∧ True) (by kernel_rfl) ⟨trivial, trivial, trivial, trivial, trivial⟩ rfl ?_
              refine TL_nilQ ?_
              refine And.intro rfl ?_
              refine TI_block ?_
              refine TI_seq ?_
              refine TI_region (by decide) (TL_turn [] [10, 12, 13] [] (mk 89 [(10, (.one (.ref 10 0))), (12, (.one (.ref 12 0))), (13, (.one (.ref 102 0)))] [(102, (.var [(.dat (I x.i)), (.dat (I x.c)), (.dat (I x.r))])), (142, (.row 64 3 (pre.map encPart))), (12, (.var [(.own 142)])), (11, (.row 58 1 ((List.replicate 256 (0 : Int)).map encI))), (10, (.var [(.dat (I (leftOf a pre)))]))]) (by kernel_rfl) ?_)
              refine TL_part 5 [{}, {}, {}, { d := some (.sl 3 ((pre ++ [(⟨x.i, x.c, x.r⟩ : Part)]).map encPart)) }] (mk 89 [(10, (.one (.ref 10 0))), (12, (.one (.ref 12 0))), (13, (.one (.ref 102 0))), (51, (.agg [(.dat (I x.i)), (.dat (I x.c)), (.dat (I x.r))])), (52, (.one (.own 141))), (53, (.one (.own 142)))] [(142, (.row 64 3 ((pre ++ [(⟨x.i, x.c, x.r⟩ : Part)]).map encPart))), (141, (.row 64 3 ([(⟨x.i, x.c, x.r⟩ : Part)].map encPart))), (102, (.var [(.dat (I x.i)), (.dat (I x.c)), (.dat (I x.r))])), (12, (.var [(.own 142)])), (11, (.row 58 1 ((List.replicate 256 (0 : Int)).map encI))), (10, (.var [(.dat (I (leftOf a pre)))]))]) (True ∧ True ∧ True ∧ True ∧ True ∧ (dfill (fun i => some (i * 3, 3)) (List.replicate (1 * 3) .junk) [(0, [(.dat (I x.i)), (.dat (I x.c)), (.dat (I x.r))])] = some ((flat ([(⟨x.i, x.c, x.r⟩ : Part)].map encPart)).map .dat)) ∧ True ∧ (((pre.map encPart).length + ([(⟨x.i, x.c, x.r⟩ : Part)].map encPart).length) * 24 ≤ 140737488355328 ∧ cellsOne ([(⟨x.i, x.c, x.r⟩ : Part)].map encPart) ∧ (pre.map encPart) ++ [(⟨x.i, x.c, x.r⟩ : Part)].map encPart = (pre ++ [(⟨x.i, x.c, x.r⟩ : Part)]).map encPart) ∧ True ∧ True ∧ True) (by kernel_rfl) ⟨trivial, trivial, trivial, trivial, trivial, rfl, trivial, ⟨by simp only [List.length_map, List.length_nil, List.length_cons]; omega, encPart_one _, by simp⟩, trivial, trivial, trivial⟩ rfl ?_
              refine TL_nilQ ?_
              refine TI_region (by decide) (TL_turn [] [10, 13] [141] (mk 89 [(10, (.one (.ref 10 0))), (13, (.one (.ref 102 0)))] [(142, (.row 64 3 ((pre ++ [(⟨x.i, x.c, x.r⟩ : Part)]).map encPart))), (102, (.var [(.dat (I x.i)), (.dat (I x.c)), (.dat (I x.r))])), (12, (.var [(.own 142)])), (11, (.row 58 1 ((List.replicate 256 (0 : Int)).map encI))), (10, (.var [(.dat (I (leftOf a pre)))]))]) (by kernel_rfl) ?_)
              refine TL_part 5 [{}, {}, {}, { d := some (I ((leftOf a pre) - x.c)) }] (mk 89 [(10, (.one (.ref 10 0))), (13, (.one (.ref 102 0))), (54, (dt (I (leftOf a pre)))), (55, (.one (.ref 102 1))), (56, (dt (I x.c))), (57, (dt (I ((leftOf a pre) - x.c))))] [(142, (.row 64 3 ((pre ++ [(⟨x.i, x.c, x.r⟩ : Part)]).map encPart))), (102, (.var [(.dat (I x.i)), (.dat (I x.c)), (.dat (I x.r))])), (12, (.var [(.own 142)])), (11, (.row 58 1 ((List.replicate 256 (0 : Int)).map encI))), (10, (.var [(.dat (I ((leftOf a pre) - x.c)))]))]) (True ∧ True ∧ True ∧ True ∧ True ∧ True ∧ True ∧ (IntKind.i64.wrap ((leftOf a pre) - x.c) = ((leftOf a pre) - x.c)) ∧ True ∧ True ∧ True) (by kernel_rfl) ⟨trivial, trivial, trivial, trivial, trivial, trivial, trivial, (i64_wrap (by omega) (by omega)), trivial, trivial, trivial⟩ rfl ?_
              refine TL_nilQ ?_
              refine And.intro rfl ?_
              exact (le_turn (s' := (mk 89 [(1, (dt (.sl 1 (ws.map encI)))), (9, (dt (I 1))), (10, (.one (.ref 10 0))), (11, (.one (.rref 11 0 0))), (12, (.one (.ref 12 0))), (48, (dt (.fn 44 [(.ptr [(.sl 1 (ws.map encI))]), (.ptr [(I a)]), (.ptr [(I n)])])))] [(142, (.row 64 3 ((pre ++ [(⟨x.i, x.c, x.r⟩ : Part)]).map encPart))), (12, (.var [(.own 142)])), (11, (.row 58 1 ((List.replicate 256 (0 : Int)).map encI))), (10, (.var [(.dat (I ((leftOf a pre) - x.c)))]))])) [] [1, 9, 10, 11, 12, 48] [102] (by kernel_rfl)).trans (DS.le_of_eq (by simp only [leftOf_snoc]))
            refine T_seq (T_parts ?_)
            refine TL_part 1 [] (mk 89 [(1, (dt (.sl 1 (ws.map encI)))), (9, (dt (I 1))), (10, (.one (.ref 10 0))), (11, (.one (.rref 11 0 0))), (12, (.one (.ref 12 0))), (48, (dt (.fn 44 [(.ptr [(.sl 1 (ws.map encI))]), (.ptr [(I a)]), (.ptr [(I n)])]))), (58, (.one (.own 142)))] [(142, (.row 64 3 ((partsOf a n ws).map encPart))), (12, (.var [(.own 142)])), (11, (.row 58 1 ((List.replicate 256 (0 : Int)).map encI))), (10, (.var [(.dat (I (leftOf a (partsOf a n ws))))]))]) (True ∧ True ∧ True) (by kernel_rfl) ⟨trivial, trivial, trivial⟩ rfl ?_
            refine TL_sort (enc := encPart) (R := sortR) 37 38 64 3 sort_ok rfl rfl (by kernel_rfl) 142 (by kernel_rfl) (by kernel_rfl) (partsOf a n ws) (by kernel_rfl) (parts_ne hs) (by rw [partsOf_length]; omega) (fun _ => ⟨rfl, rfl⟩) (fun d26 hR27 hl28 => ?_)
            refine TL_turn [] [1, 9, 10, 11, 12, 59] [] (mk 89 [(1, (dt (.sl 1 (ws.map encI)))), (9, (dt (I 1))), (10, (.one (.ref 10 0))), (11, (.one (.rref 11 0 0))), (12, (.one (.ref 12 0))), (59, (dt (.tup [])))] [(142, (.row 64 3 (d26.map encPart))), (12, (.var [(.own 142)])), (11, (.row 58 1 ((List.replicate 256 (0 : Int)).map encI))), (10, (.var [(.dat (I (leftOf a (partsOf a n ws))))]))]) (by kernel_rfl) ?_
            refine TL_nilQ ?_
            refine T_turn [] [1, 9, 10, 11, 12] [] (mk 89 [(1, (dt (.sl 1 (ws.map encI)))), (9, (dt (I 1))), (10, (.one (.ref 10 0))), (11, (.one (.rref 11 0 0))), (12, (.one (.ref 12 0)))] [(142, (.row 64 3 (d26.map encPart))), (12, (.var [(.own 142)])), (11, (.row 58 1 ((List.replicate 256 (0 : Int)).map encI))), (10, (.var [(.dat (I (leftOf a (partsOf a n ws))))]))]) (by kernel_rfl) ?_
            refine T_seq ?_
            refine T_reg [{}, { d := some (I ((d26.length : Nat) : Int)) }] [1, 9, 10, 11, 60, 61, 62] [12] (mk 89 [(1, (dt (.sl 1 (ws.map encI)))), (9, (dt (I 1))), (10, (.one (.ref 10 0))), (11, (.one (.rref 11 0 0))), (60, (.one (.own 142))), (61, (dt (I ((d26.length : Nat) : Int)))), (62, (dt (I 0)))] [(142, (.row 64 3 (d26.map encPart))), (11, (.row 58 1 ((List.replicate 256 (0 : Int)).map encI))), (10, (.var [(.dat (I (leftOf a (partsOf a n ws))))]))]) (True ∧ True ∧ True ∧ (True ∧ D.int .i64 ((d26.map encPart).length : Int) = (I ((d26.length : Nat) : Int))) ∧ True ∧ True ∧ True) (by kernel_rfl) ⟨trivial, trivial, trivial, ⟨trivial, by rw [List.length_map]⟩, trivial, trivial, trivial⟩ ?_
            refine T_block ?_
            refine T_turn [] [1, 9, 10, 11, 60, 61, 62] [] ((fun ((k, cs) : Nat × List Int) => (mk 89 [(1, (dt (.sl 1 (ws.map encI)))), (9, (dt (I 1))), (10, (.one (.ref 10 0))), (11, (.one (.rref 11 0 0))), (60, (.one (.own 142))), (61, (dt (I ((d26.length : Nat) : Int)))), (62, (dt (I ((k : Nat) : Int))))] [(142, (.row 64 3 (d26.map encPart))), (11, (.row 58 1 (cs.map encI))), (10, (.var [(.dat (I (leftOf a (partsOf a n ws))))]))])) (0, (List.replicate 256 (0 : Int)))) (by kernel_rfl) (T_loop (α := Nat × List Int) (fun ((k, cs) : Nat × List Int) => (mk 89 [(1, (dt (.sl 1 (ws.map encI)))), (9, (dt (I 1))), (10, (.one (.ref 10 0))), (11, (.one (.rref 11 0 0))), (60, (.one (.own 142))), (61, (dt (I ((d26.length : Nat) : Int)))), (62, (dt (I ((k : Nat) : Int))))] [(142, (.row 64 3 (d26.map encPart))), (11, (.row 58 1 (cs.map encI))), (10, (.var [(.dat (I (leftOf a (partsOf a n ws))))]))])) (fun ((k, cs) : Nat × List Int) => (k ≤ d26.length) ∧ (cs.length = 256) ∧ (Filled (leftOf a (partsOf a n ws)) d26 k cs) ∧ True) (fun ((k, cs) : Nat × List Int) => d26.length - k) (0, (List.replicate 256 (0 : Int))) ⟨Nat.zero_le _, List.length_replicate, fill_start _ _ _, trivial⟩ ?_)
            rintro ⟨k, cs⟩ ⟨ik, ic, iv2, _⟩
            refine T_reg [] [1, 9, 10, 11, 60, 61, 62, 63] [] (mk 89 [(1, (dt (.sl 1 (ws.map encI)))), (9, (dt (I 1))), (10, (.one (.ref 10 0))), (11, (.one (.rref 11 0 0))), (60, (.one (.own 142))), (61, (dt (I ((d26.length : Nat) : Int)))), (62, (dt (I ((k : Nat) : Int)))), (63, (dt (B (decide (((k : Nat) : Int) < ((d26.length : Nat) : Int))))))] [(142, (.row 64 3 (d26.map encPart))), (11, (.row 58 1 (cs.map encI))), (10, (.var [(.dat (I (leftOf a (partsOf a n ws))))]))]) (True ∧ True ∧ True) (by kernel_rfl) ⟨trivial, trivial, trivial⟩ ?_
            refine T_seq ?_
            refine T_cond (decide (((k : Nat) : Int) < ((d26.length : Nat) : Int))) (by kernel_rfl) (fun h29 => ?_) (fun h29 => ?_)
            · skip
              have g30 : ((k : Nat) : Int) < ((d26.length : Nat) : Int) := of_decide_eq_true (h29)
              refine T_skip ?_
              refine T_seq ?_
              refine T_block ?_
              have lt31 : k < (d26).length := by first | omega | (simp only [List.length_set, List.length_map, List.length_append, List.length_cons, List.length_nil] at *; omega)
              obtain ⟨x32, hx33⟩ : ∃ x, (d26)[k]? = some x := ⟨_, List.getElem?_eq_getElem lt31⟩
              have hbx := part_bounds2 ha ha2 (s := n) (by have := sumL_end iv (by omega); omega) hw hl (fun x hx => by have := le_sumL (fun y hy => (hw y hy).1) hx; have := sumL_end iv (by omega); omega) (hR27.1.mem_iff.1 (List.mem_of_getElem? hx33))
              have hpl3 := partsOf_length a n ws
              have hlf3 := leftOf_bounds ha ha2 (s := n) (by have := sumL_end iv (by omega); omega) hw hl (fun x hx => by have := le_sumL (fun y hy => (hw y hy).1) hx; have := sumL_end iv (by omega); omega) (List.prefix_refl _)
              refine T_reg [{}, {}, { d := some (.agg [(I x32.i), (I x32.c), (I x32.r)]) }] [1, 9, 10, 11, 14, 15, 60, 61, 62] [] (mk 89 [(1, (dt (.sl 1 (ws.map encI)))), (9, (dt (I 1))), (10, (.one (.ref 10 0))), (11, (.one (.rref 11 0 0))), (14, (dt (I ((k : Nat) : Int)))), (15, (.one (.ref 15 0))), (60, (.one (.own 142))), (61, (dt (I ((d26.length : Nat) : Int)))), (62, (dt (I ((k : Nat) : Int))))] [(15, (.var [(.dat (I x32.i)), (.dat (I x32.c)), (.dat (I x32.r))])), (142, (.row 64 3 (d26.map encPart))), (11, (.row 58 1 (cs.map encI))), (10, (.var [(.dat (I (leftOf a (partsOf a n ws))))]))]) (True ∧ True ∧ True ∧ (0 ≤ ((k : Nat) : Int) ∧ ((k : Nat) : Int) < (((d26.map encPart).length : Nat) : Int)) ∧ True ∧ ((d26.map encPart)[k]? = some (.agg [(I x32.i), (I x32.c), (I x32.r)])) ∧ True ∧ True ∧ True ∧ True ∧ True ∧ True ∧ True) (by kernel_rfl) ⟨trivial, trivial, trivial, ⟨by omega, by rw [List.length_map]; omega⟩, trivial, (by rw [List.getElem?_map, hx33]; rfl), trivial, trivial, trivial, trivial, trivial, trivial, trivial⟩ ?_
              have lt34 : (x32.i).toNat < (cs).length := by first | omega | (simp only [List.length_set, List.length_map, List.length_append, List.length_cons, List.length_nil] at *; omega)
              obtain ⟨x35, hx36⟩ : ∃ x, (cs)[(x32.i).toNat]? = some x := ⟨_, List.getElem?_eq_getElem lt34⟩
              refine T_reg [{}, {}, {}, {}, {}, { d := some (I x32.c) }, {}, { d := some (.tup [(I x35), (.sl 1 ((cs.set (x32.i).toNat x32.c).map encI))]) }] [1, 9, 10, 11, 14, 15, 60, 61, 62] [] (mk 89 [(1, (dt (.sl 1 (ws.map encI)))), (9, (dt (I 1))), (10, (.one (.ref 10 0))), (11, (.one (.rref 11 0 0))), (14, (dt (I ((k : Nat) : Int)))), (15, (.one (.ref 15 0))), (60, (.one (.own 142))), (61, (dt (I ((d26.length : Nat) : Int)))), (62, (dt (I ((k : Nat) : Int))))] [(15, (.var [(.dat (I x32.i)), (.dat (I x32.c)), (.dat (I x32.r))])), (142, (.row 64 3 (d26.map encPart))), (11, (.row 58 1 ((cs.set (x32.i).toNat x32.c).map encI))), (10, (.var [(.dat (I (leftOf a (partsOf a n ws))))]))]) (True ∧ True ∧ True ∧ True ∧ True ∧ True ∧ True ∧ True ∧ True ∧ True ∧ True ∧ (IntKind.i64.wrap (1 * x32.c) = x32.c) ∧ True ∧ (0 ≤ x32.i ∧ x32.i < ((256 : Nat) : Int)) ∧ True ∧ ((cs.map encI)[(x32.i).toNat]? = some (I x35) ∧ (cs.map encI).set (x32.i).toNat (I x32.c) = (cs.set (x32.i).toNat x32.c).map encI) ∧ True) (by kernel_rfl) ⟨trivial, trivial, trivial, trivial, trivial, trivial, trivial, trivial, trivial, trivial, trivial, (by rw [Int.one_mul]; exact (i64_wrap (by omega) (by omega))), trivial, ⟨by omega, by omega⟩, trivial, ⟨by rw [List.getElem?_map, hx36]; rfl, by simp only [List.map_set]; first | done | rfl⟩, trivial⟩ ?_
              refine T_reg [] [1, 9, 10, 11, 15, 60, 61, 62, 76] [] (mk 89 [(1, (dt (.sl 1 (ws.map encI)))), (9, (dt (I 1))), (10, (.one (.ref 10 0))), (11, (.one (.rref 11 0 0))), (15, (.one (.ref 15 0))), (60, (.one (.own 142))), (61, (dt (I ((d26.length : Nat) : Int)))), (62, (dt (I ((k : Nat) : Int)))), (76, (dt (B (decide (((k : Nat) : Int) < (leftOf a (partsOf a n ws)))))))] [(15, (.var [(.dat (I x32.i)), (.dat (I x32.c)), (.dat (I x32.r))])), (142, (.row 64 3 (d26.map encPart))), (11, (.row 58 1 ((cs.set (x32.i).toNat x32.c).map encI))), (10, (.var [(.dat (I (leftOf a (partsOf a n ws))))]))]) (True ∧ True ∧ True ∧ True ∧ True ∧ True ∧ True) (by kernel_rfl) ⟨trivial, trivial, trivial, trivial, trivial, trivial, trivial⟩ ?_
              refine T_cond (decide (((k : Nat) : Int) < (leftOf a (partsOf a n ws)))) (by kernel_rfl) (fun h37 => ?_) (fun h37 => ?_)
              · skip
                have g38 : ((k : Nat) : Int) < (leftOf a (partsOf a n ws)) := of_decide_eq_true (h37)
                have hs39 : ((cs.set (x32.i).toNat x32.c))[(x32.i).toNat]? = some x32.c := by rw [List.getElem?_set_self (by omega)]
                refine T_regE [{}, {}, {}, { d := some (I x32.c) }, {}, { d := some (I (x32.c + 1)) }, {}, { d := some (.tup [(I x32.c), (.sl 1 (((cs.set (x32.i).toNat x32.c).set (x32.i).toNat (x32.c + 1)).map encI))]) }] (mk 89 [(1, (dt (.sl 1 (ws.map encI)))), (9, (dt (I 1))), (10, (.one (.ref 10 0))), (11, (.one (.rref 11 0 0))), (15, (.one (.ref 15 0))), (60, (.one (.own 142))), (61, (dt (I ((d26.length : Nat) : Int)))), (62, (dt (I ((k : Nat) : Int)))), (76, (dt (B (decide (((k : Nat) : Int) < (leftOf a (partsOf a n ws))))))), (77, (.one (.ref 15 0))), (78, (dt (I x32.i))), (79, (.one (.rref 11 (x32.i).toNat 0))), (80, (dt (I x32.c))), (81, (dt (I 1))), (82, (dt (I (x32.c + 1)))), (83, (.one (.rref 11 (x32.i).toNat 0)))] [(15, (.var [(.dat (I x32.i)), (.dat (I x32.c)), (.dat (I x32.r))])), (142, (.row 64 3 (d26.map encPart))), (11, (.row 58 1 (((cs.set (x32.i).toNat x32.c).set (x32.i).toNat (x32.c + 1)).map encI))), (10, (.var [(.dat (I (leftOf a (partsOf a n ws))))]))]) (True ∧ True ∧ True ∧ True ∧ True ∧ (0 ≤ x32.i ∧ x32.i < ((256 : Nat) : Int)) ∧ True ∧ (((cs.set (x32.i).toNat x32.c).map encI)[(x32.i).toNat]? = some (I x32.c)) ∧ True ∧ True ∧ True ∧ (IntKind.i64.wrap (x32.c + 1) = (x32.c + 1)) ∧ True ∧ (0 ≤ x32.i ∧ x32.i < ((256 : Nat) : Int)) ∧ True ∧ (((cs.set (x32.i).toNat x32.c).map encI)[(x32.i).toNat]? = some (I x32.c) ∧ ((cs.set (x32.i).toNat x32.c).map encI).set (x32.i).toNat (I (x32.c + 1)) = ((cs.set (x32.i).toNat x32.c).set (x32.i).toNat (x32.c + 1)).map encI) ∧ True) (by kernel_rfl) ⟨trivial, trivial, trivial, trivial, trivial, ⟨by omega, by omega⟩, trivial, (by rw [List.getElem?_map, hs39]; rfl), trivial, trivial, trivial, (i64_wrap (by omega) (by omega)), trivial, ⟨by omega, by omega⟩, trivial, ⟨by rw [List.getElem?_map, hs39]; rfl, by simp only [List.map_set]; first | done | rfl⟩, trivial⟩ ?_
                refine T_regE [{ d := some (I ((k + 1 : Nat) : Int)) }] (mk 89 [(1, (dt (.sl 1 (ws.map encI)))), (9, (dt (I 1))), (10, (.one (.ref 10 0))), (11, (.one (.rref 11 0 0))), (15, (.one (.ref 15 0))), (60, (.one (.own 142))), (61, (dt (I ((d26.length : Nat) : Int)))), (62, (dt (I ((k + 1 : Nat) : Int)))), (76, (dt (B (decide (((k : Nat) : Int) < (leftOf a (partsOf a n ws))))))), (77, (.one (.ref 15 0))), (78, (dt (I x32.i))), (79, (.one (.rref 11 (x32.i).toNat 0))), (80, (dt (I x32.c))), (81, (dt (I 1))), (82, (dt (I (x32.c + 1)))), (83, (.one (.rref 11 (x32.i).toNat 0))), (84, (dt (I ((k + 1 : Nat) : Int))))] [(15, (.var [(.dat (I x32.i)), (.dat (I x32.c)), (.dat (I x32.r))])), (142, (.row 64 3 (d26.map encPart))), (11, (.row 58 1 (((cs.set (x32.i).toNat x32.c).set (x32.i).toNat (x32.c + 1)).map encI))), (10, (.var [(.dat (I (leftOf a (partsOf a n ws))))]))]) (True ∧ (IntKind.i64.wrap (((k : Nat) : Int) + 1) = ((k + 1 : Nat) : Int)) ∧ True ∧ True ∧ True) (by kernel_rfl) ⟨trivial, (by rw [i64_wrap (by omega) (by omega)]; omega), trivial, trivial, trivial⟩ ?_
                refine Exists.intro (k + 1, ((cs.set (x32.i).toNat x32.c).set (x32.i).toNat (x32.c + 1))) ⟨⟨by omega, by simp only [List.length_set]; exact ic, by first | exact fill_more iv2 hR27 hx33 ic hl (by omega) | exact fill_less iv2 hR27 hx33 ic hl (by omega), trivial⟩, by first | omega | (dsimp only; omega), le_turn [] [1, 9, 10, 11, 60, 61, 62] [15] (by kernel_rfl)⟩
              · skip
                have g40 : ¬ (((k : Nat) : Int) < (leftOf a (partsOf a n ws))) := of_decide_eq_false (h37)
                refine T_skip ?_
                refine T_regE [{ d := some (I ((k + 1 : Nat) : Int)) }] (mk 89 [(1, (dt (.sl 1 (ws.map encI)))), (9, (dt (I 1))), (10, (.one (.ref 10 0))), (11, (.one (.rref 11 0 0))), (15, (.one (.ref 15 0))), (60, (.one (.own 142))), (61, (dt (I ((d26.length : Nat) : Int)))), (62, (dt (I ((k + 1 : Nat) : Int)))), (76, (dt (B (decide (((k : Nat) : Int) < (leftOf a (partsOf a n ws))))))), (84, (dt (I ((k + 1 : Nat) : Int))))] [(15, (.var [(.dat (I x32.i)), (.dat (I x32.c)), (.dat (I x32.r))])), (142, (.row 64 3 (d26.map encPart))), (11, (.row 58 1 ((cs.set (x32.i).toNat x32.c).map encI))), (10, (.var [(.dat (I (leftOf a (partsOf a n ws))))]))]) (True ∧ (IntKind.i64.wrap (((k : Nat) : Int) + 1) = ((k + 1 : Nat) : Int)) ∧ True ∧ True ∧ True) (by kernel_rfl) ⟨trivial, (by rw [i64_wrap (by omega) (by omega)]; omega), trivial, trivial, trivial⟩ ?_
                refine Exists.intro (k + 1, (cs.set (x32.i).toNat x32.c)) ⟨⟨by omega, by simp only [List.length_set]; exact ic, by first | exact fill_more iv2 hR27 hx33 ic hl (by omega) | exact fill_less iv2 hR27 hx33 ic hl (by omega), trivial⟩, by first | omega | (dsimp only; omega), le_turn [] [1, 9, 10, 11, 60, 61, 62] [15] (by kernel_rfl)⟩
            · skip
              have g41 : ¬ (((k : Nat) : Int) < ((d26.length : Nat) : Int)) := of_decide_eq_false (h29)
              refine T_exit ?_
              refine T_seq (T_parts ?_)
              refine TL_part 2 [{}, { d := some (I ((ws.length : Nat) : Int)) }] (mk 89 [(1, (dt (.sl 1 (ws.map encI)))), (9, (dt (I 1))), (10, (.one (.ref 10 0))), (11, (.one (.rref 11 0 0))), (60, (.one (.own 142))), (61, (dt (I ((d26.length : Nat) : Int)))), (62, (dt (I ((k : Nat) : Int)))), (63, (dt (B (decide (((k : Nat) : Int) < ((d26.length : Nat) : Int)))))), (85, (dt (.sl 1 (ws.map encI)))), (86, (dt (I ((ws.length : Nat) : Int))))] [(142, (.row 64 3 (d26.map encPart))), (11, (.row 58 1 (cs.map encI))), (10, (.var [(.dat (I (leftOf a (partsOf a n ws))))]))]) (True ∧ True ∧ True ∧ (True ∧ D.int .i64 ((ws.map encI).length : Int) = (I ((ws.length : Nat) : Int))) ∧ True) (by kernel_rfl) ⟨trivial, trivial, trivial, ⟨trivial, by rw [List.length_map]⟩, trivial⟩ rfl ?_
              refine TL_arrSlice 58 87 11 1 256 3 58 (cs.map encI) ((cs.take ws.length).map encI) _ _ (ws.length) rfl rfl rfl (by kernel_rfl) (by kernel_rfl) (by kernel_rfl) (by kernel_rfl) (by kernel_rfl) (by rw [List.length_map]; exact ic) (by decide) (by omega) (by rw [List.map_take]) ?_
              refine TL_turn [] [4, 5, 87, 88] [142, 10] (mk 89 [(87, (dt (.sl 1 ((cs.take ws.length).map encI))))] []) (by kernel_rfl) ?_
              refine TL_part 3 [{ d := some (.sl 1 ((cs.take ws.length).map encI)) }] (mk 89 [(4, (dt (.sl 1 ((cs.take ws.length).map encI)))), (5, (dt (I 0))), (87, (dt (.sl 1 ((cs.take ws.length).map encI)))), (88, (dt (.sl 1 ((cs.take ws.length).map encI))))] []) (True ∧ (Ret Try.prog 39 [(.sl 1 ((cs.take ws.length).map encI))] (.sl 1 ((cs.take ws.length).map encI))) ∧ True ∧ True ∧ True ∧ True ∧ True) (by kernel_rfl) ⟨trivial, (ret_cloneI _ (by simp only [List.length_take]; omega)), trivial, trivial, trivial, trivial, trivial⟩ rfl ?_
              refine TL_nilQ ?_
              refine T_turn [] [4, 5] [] (mk 89 [(4, (dt (.sl 1 ((cs.take ws.length).map encI)))), (5, (dt (I 0)))] []) (by kernel_rfl) ?_
              refine T_ret ?_
              exact ret_here [(dt (.sl 1 ((cs.take ws.length).map encI))), (dt (I 0))] (by kernel_rfl) ⟨(.inl (congrArg (fun l => D.sl 1 (l.map encI)) ((by rw [← sumL_end iv (by omega)]; exact filled_end iv2 (by assumption) ic hl (by omega)) : (cs.take ws.length) = (splitW a (sumL 0 ws) ws)))), (.inl rfl), trivial⟩

end Go.Proofs.Ythpjlkpkhlkhbaa

/-
  The plain law of the reference's Split: choosing the greatest rest, again and again, follows the ranks. Conditions: those of each theorem.
-/
set_option linter.unusedVariables false
set_option linter.unusedSimpArgs false
namespace Go.Proofs.Ythpjlkpkhlkhbaa
open Go.DL
theorem mul_low {a x : Int} (ha : 0 ≤ a) (ha2 : a ≤ 1125899906842624) (hx : 0 ≤ x ∧ x ≤ 1000) : 0 ≤ a * x ∧ a * x ≤ 1125899906842624000 :=
  ⟨Int.mul_nonneg ha hx.1, Int.le_trans (Int.mul_le_mul_of_nonneg_left hx.2 ha) (Int.mul_le_mul_of_nonneg_right ha2 (by decide))⟩
theorem div_low {m s : Int} (hm : 0 ≤ m) : s ≤ 0 ∨ (0 ≤ m.tdiv s ∧ m.tdiv s ≤ m) := by
  by_cases hs : 0 < s
  case neg => exact .inl (by omega)
  refine .inr ?_
  rw [Int.tdiv_eq_ediv_of_nonneg hm]
  exact ⟨Int.ediv_nonneg hm (Int.le_of_lt hs), Int.ediv_le_self s hm⟩
def outM (ps : List Part) (m : Nat) : List Int := ps.map fun p => p.c + if rank ps p < m then 1 else 0
def restM (ps : List Part) (m : Nat) : List Int := ps.map fun p => if rank ps p < m then -1 else p.r
def Best (r : List Int) (i b : Nat) : Prop := ∀ y, r[b]? = some y → ∀ j z, j < i → r[j]? = some z → z ≤ y ∧ (j < b → z < y)
theorem best_len {r : List Int} {i b n : Nat} (h : Best r i b) (hn : n ≤ i) : Best r n b := fun y hy j z hj hz => h y hy j z (by omega) hz
theorem best_start (r : List Int) : Best r 1 0 := by
  intro y hy j z hj hz
  obtain rfl : j = 0 := by omega
  rw [hy] at hz; cases hz
  exact ⟨Int.le_refl _, fun h => absurd h (Nat.lt_irrefl _)⟩
theorem best_more {r : List Int} {i b : Nat} {x y : Int} (h : Best r i b) (hx : r[i]? = some x) (hy : r[b]? = some y) (hb : b < i) (hxy : x > y) : Best r (i + 1) i := by
  intro y' hy' j z hj hz
  rw [hx] at hy'; cases hy'
  by_cases e : j = i
  · subst e; rw [hx] at hz; cases hz; exact ⟨Int.le_refl _, fun h => absurd h (Nat.lt_irrefl _)⟩
  · have := (h y hy j z (by omega) hz).1
    exact ⟨by omega, fun _ => by omega⟩
theorem best_less {r : List Int} {i b : Nat} {x y : Int} (h : Best r i b) (hx : r[i]? = some x) (hy : r[b]? = some y) (hb : b < i) (hxy : ¬ x > y) : Best r (i + 1) b := by
  intro y' hy' j z hj hz
  rw [hy] at hy'; cases hy'
  by_cases e : j = i
  · subst e; rw [hx] at hz; cases hz; exact ⟨by omega, fun h => by omega⟩
  · exact h y hy j z (by omega) hz
theorem get_snoc {α : Type} {l : List α} {k : Nat} {q : α} (h : l.length = k) : (l ++ [q])[k]? = some q := by subst h; simp
theorem ahead_tot {p q : Part} (h : ahead p q = false) (h2 : p.i ≠ q.i) : ahead q p = true := by
  simp only [ahead, Bool.or_eq_false_iff, Bool.and_eq_false_iff, decide_eq_false_iff_not, Bool.or_eq_true, Bool.and_eq_true, decide_eq_true_eq] at h ⊢
  omega
/-- There is a sorted order. -/
theorem sorted_is (ps : List Part) : ∃ d, sortR ps d := by
  refine ⟨ps.mergeSort (fun p q => !ahead q p), List.mergeSort_perm _ _, ?_⟩
  have := List.pairwise_mergeSort (le := fun p q : Part => !ahead q p) (fun a b c h1 h2 => by
    simp only [Bool.not_eq_true', ahead, Bool.or_eq_false_iff, Bool.and_eq_false_iff, decide_eq_false_iff_not] at *; omega) (fun a b => by
    simp only [Bool.or_eq_true, Bool.not_eq_true', ahead, Bool.or_eq_false_iff, Bool.and_eq_false_iff, decide_eq_false_iff_not]; omega) ps
  exact this.imp fun h => by simpa using h
theorem part_get {a s : Int} {ws : List Int} {k : Nat} {x : Int} (h : ws[k]? = some x) : (partsOf a s ws)[k]? = some ⟨k, (a * x).tdiv s, (a * x).tmod s⟩ := by
  obtain ⟨hlt, he⟩ := List.getElem?_eq_some_iff.1 h
  rw [partsOf, List.getElem?_map, List.getElem?_range hlt, Option.map_some, partAt, List.getD, h]; rfl
theorem part_idx {a s : Int} {ws : List Int} {k : Nat} {p : Part} (h : (partsOf a s ws)[k]? = some p) : p.i = k := by
  rw [partsOf, List.getElem?_map, Option.map_eq_some_iff] at h
  obtain ⟨j, hj, rfl⟩ := h
  obtain ⟨hlt, he⟩ := List.getElem?_eq_some_iff.1 hj
  simp at he; subst he; rfl
/-- Σ of the rests. -/
theorem left_eq (a s : Int) (hs : s ≠ 0) : ∀ (l : List Int) (k : Nat) (L : Int) (ps : List Part), (∀ x ∈ l, 0 ≤ a * x) → 0 < s → ps = (l.zipIdx k).map (fun x => (⟨x.2, (a * x.1).tdiv s, (a * x.1).tmod s⟩ : Part)) →
    leftOf L ps * s = L * s - a * sumL 0 l + (ps.map (·.r)).foldr (· + ·) 0 := by
  intro l
  induction l with
  | nil => intro k L ps _ _ h; subst h; simp [leftOf, sumL]
  | cons x l ih =>
    intro k L ps hx hs0 h
    subst h
    have h1 := ih (k + 1) (L - (a * x).tdiv s) _ (fun y hy => hx y (by simp [hy])) hs0 rfl
    have e1 : sumL 0 (x :: l) = sumL 0 l + x := by simp only [sumL]; exact sumL_add l 0 x
    have e2 : leftOf L (((x :: l).zipIdx k).map fun x => (⟨x.2, (a * x.1).tdiv s, (a * x.1).tmod s⟩ : Part)) = leftOf (L - (a * x).tdiv s) ((l.zipIdx (k + 1)).map fun x => (⟨x.2, (a * x.1).tdiv s, (a * x.1).tmod s⟩ : Part)) := rfl
    rw [e2, h1, e1]
    simp only [List.zipIdx_cons, List.map_cons, List.foldr_cons]
    have h2 := Int.mul_tdiv_add_tmod (a * x) s
    rw [Int.sub_mul, Int.mul_add]
    have h3 : s * (a * x).tdiv s = (a * x).tdiv s * s := Int.mul_comm _ _
    omega
theorem partsOf_zip (a s : Int) (ws : List Int) : partsOf a s ws = (ws.zipIdx 0).map (fun x => (⟨x.2, (a * x.1).tdiv s, (a * x.1).tmod s⟩ : Part)) := by
  apply List.ext_getElem?
  intro k
  cases h : ws[k]? with
  | none =>
    have : ws.length ≤ k := List.getElem?_eq_none_iff.1 h
    rw [List.getElem?_eq_none (by rw [partsOf_length]; exact this), List.getElem?_eq_none (by simp; exact this)]
  | some x => rw [part_get h, List.getElem?_map, List.getElem?_zipIdx, h]; simp
/-- What is left is less than there are parts; and what it comes to. -/
theorem left_spec {a s : Int} {ws : List Int} (ha : 0 ≤ a) (hs : 0 < s) (hw : ∀ x ∈ ws, 0 ≤ x) (hss : s = sumL 0 ws) : leftOf a (partsOf a s ws) * s = ((partsOf a s ws).map (·.r)).foldr (· + ·) 0 := by
  have h := left_eq a s (by omega) ws 0 a (partsOf a s ws) (fun x hx => Int.mul_nonneg ha (hw x hx)) hs (partsOf_zip a s ws)
  rw [← hss] at h
  omega
theorem sum_rests {s : Int} : ∀ l : List Int, (∀ x ∈ l, 0 ≤ x ∧ x < s) → 0 ≤ l.foldr (· + ·) 0 ∧ l.foldr (· + ·) 0 ≤ (l.length : Int) * (s - 1)
  | [], _ => by simp
  | x :: l, h => by
    have h1 := sum_rests l fun y hy => h y (by simp [hy])
    have h2 := h x (by simp)
    simp only [List.foldr_cons, List.length_cons, Int.natCast_add, Int.natCast_one, Int.add_mul, Int.one_mul]
    omega
theorem rest_bounds {a s : Int} {ws : List Int} (ha : 0 ≤ a) (hs : 0 < s) (hw : ∀ x ∈ ws, 0 ≤ x) {p : Part} (hp : p ∈ partsOf a s ws) : 0 ≤ p.r ∧ p.r < s := by
  simp only [partsOf, List.mem_map, List.mem_range] at hp
  obtain ⟨k, hk, rfl⟩ := hp
  have h2 : 0 ≤ a * ws.getD k 0 := Int.mul_nonneg ha (hw _ (getD_mem hk))
  simp only [partAt]
  rw [Int.tmod_eq_emod_of_nonneg h2]
  exact ⟨Int.emod_nonneg _ (by omega), Int.emod_lt_of_pos _ hs⟩
theorem left_range {a s : Int} {ws : List Int} (ha : 0 ≤ a) (hs : 0 < s) (hw : ∀ x ∈ ws, 0 ≤ x) (hss : s = sumL 0 ws) : 0 ≤ leftOf a (partsOf a s ws) ∧ (0 < leftOf a (partsOf a s ws) → leftOf a (partsOf a s ws) < (ws.length : Int)) := by
  have h := left_spec ha hs hw hss
  have h1 := sum_rests (s := s) ((partsOf a s ws).map (·.r)) fun x hx => by
    obtain ⟨p, hp, rfl⟩ := List.mem_map.1 hx
    exact rest_bounds ha hs hw hp
  rw [List.length_map, partsOf_length] at h1
  generalize leftOf a (partsOf a s ws) = L at h
  rw [← h] at h1
  refine ⟨?_, fun hL => ?_⟩
  · apply Int.not_lt.1
    intro hn
    have : L * s < 0 := Int.mul_neg_of_neg_of_pos hn hs
    omega
  · apply Int.not_le.1
    intro hn
    have h3 : (ws.length : Int) * s ≤ L * s := Int.mul_le_mul_of_nonneg_right hn (Int.le_of_lt hs)
    have h4 : (ws.length : Int) * (s - 1) = (ws.length : Int) * s - ws.length := by rw [Int.mul_sub, Int.mul_one]
    have h5 : 0 < ws.length := by
      rcases Nat.eq_zero_or_pos ws.length with e | e
      · have := sumL_nil ws; omega
      · exact e
    omega
theorem rank_lt {ps : List Part} {d : List Part} (hR : sortR ps d) (hn : (d.map (·.i)).Nodup) {p q : Part} (hp : p ∈ ps) (hq : q ∈ ps) (h : ahead p q = true) : rank ps p < rank ps q := by
  obtain ⟨i, hi, rfl⟩ := List.mem_iff_getElem.1 (hR.1.mem_iff.2 hp)
  obtain ⟨j, hj, rfl⟩ := List.mem_iff_getElem.1 (hR.1.mem_iff.2 hq)
  rw [rank_at hR hn (List.getElem?_eq_getElem hi), rank_at hR hn (List.getElem?_eq_getElem hj)]
  have hpw := List.pairwise_iff_getElem.1 hR.2
  rcases Nat.lt_trichotomy i j with h1 | h1 | h1
  · exact h1
  · subst h1; simp [ahead] at h
  · have := hpw j i hj hi h1
    rw [this] at h; cases h
theorem pick_at {a s : Int} {ws : List Int} {m : Nat} (ha : 0 ≤ a) (hs : 0 < s) (hw : ∀ x ∈ ws, 0 ≤ x) (hss : s = sumL 0 ws) (hm : (m : Int) < leftOf a (partsOf a s ws)) {b : Nat} {p : Part} (hp : (partsOf a s ws)[b]? = some p)
    (hb : Best (restM (partsOf a s ws) m) ws.length b) : rank (partsOf a s ws) p = m := by
  obtain ⟨d, hR⟩ := sorted_is (partsOf a s ws)
  have hn := sorted_nodup hR
  have hlen : d.length = ws.length := by rw [hR.1.length_eq, partsOf_length]
  have hml : m < d.length := by have := (left_range ha hs hw hss).2 (by omega); omega
  have hxm : d[m] ∈ partsOf a s ws := hR.1.mem_iff.1 (List.getElem_mem hml)
  have hrx := rank_at hR hn (List.getElem?_eq_getElem hml)
  obtain ⟨i, hi, hie⟩ := List.mem_iff_getElem.1 hxm
  have hxi : (partsOf a s ws)[i]? = some d[m] := by rw [List.getElem?_eq_getElem hi, hie]
  generalize d[m] = x at *
  have hpm := List.mem_of_getElem? hp
  have hrb := rest_bounds ha hs hw hxm
  have hrp := rest_bounds ha hs hw hpm
  rw [partsOf_length] at hi
  have hy : (restM (partsOf a s ws) m)[b]? = some (if rank (partsOf a s ws) p < m then -1 else p.r) := by rw [restM, List.getElem?_map, hp]; rfl
  have hz : (restM (partsOf a s ws) m)[i]? = some x.r := by rw [restM, List.getElem?_map, hxi, Option.map_some, if_neg (by omega)]
  have hbb := hb _ hy i _ hi hz
  have h1 : ¬ rank (partsOf a s ws) p < m := fun h => by rw [if_pos h] at hbb; omega
  rw [if_neg h1] at hbb
  rcases Nat.lt_or_ge m (rank (partsOf a s ws) p) with h2 | h2
  · exfalso
    have hap : ahead p x = false := by
      cases hc : ahead p x with
      | false => rfl
      | true => have := rank_lt hR hn hpm hxm hc; omega
    have hne : p.i ≠ x.i := fun e => by
      have e1 := part_idx hp
      have e2 := part_idx hxi
      have : b = i := by omega
      subst this
      rw [hp] at hxi; cases hxi; omega
    have hax := ahead_tot hap hne
    simp only [ahead, Bool.or_eq_true, Bool.and_eq_true, decide_eq_true_eq] at hax
    have e1 := part_idx hp
    have e2 := part_idx hxi
    rcases hax with h3 | ⟨h3, h4⟩
    · omega
    · have := hbb.2 (by omega); omega
  · omega
theorem rank_one {a s : Int} {ws : List Int} {i j : Nat} {p q : Part} (hp : (partsOf a s ws)[i]? = some p) (hq : (partsOf a s ws)[j]? = some q) (h : rank (partsOf a s ws) p = rank (partsOf a s ws) q) : i = j := by
  obtain ⟨d, hR⟩ := sorted_is (partsOf a s ws)
  have hn := sorted_nodup hR
  obtain ⟨x, hx, e1⟩ := List.mem_iff_getElem.1 (hR.1.mem_iff.2 (List.mem_of_getElem? hp))
  obtain ⟨y, hy, e2⟩ := List.mem_iff_getElem.1 (hR.1.mem_iff.2 (List.mem_of_getElem? hq))
  subst e1 e2
  rw [rank_at hR hn (List.getElem?_eq_getElem hx), rank_at hR hn (List.getElem?_eq_getElem hy)] at h
  subst h
  have h1 := part_idx hp
  have h2 := part_idx hq
  omega
theorem pick_step {a s : Int} {ws : List Int} {m : Nat} (ha : 0 ≤ a) (hs : 0 < s) (hw : ∀ x ∈ ws, 0 ≤ x) (hss : s = sumL 0 ws) (hm : (m : Int) < leftOf a (partsOf a s ws)) {b : Nat} {x y : Int}
    (hb : Best (restM (partsOf a s ws) m) ws.length b) (hx : (outM (partsOf a s ws) m)[b]? = some x) (hy : (restM (partsOf a s ws) m)[b]? = some y) :
    (outM (partsOf a s ws) m).set b (x + 1) = outM (partsOf a s ws) (m + 1) ∧ (restM (partsOf a s ws) m).set b (-1) = restM (partsOf a s ws) (m + 1) := by
  obtain ⟨p, hp, hpx⟩ : ∃ p, (partsOf a s ws)[b]? = some p ∧ p.c + (if rank (partsOf a s ws) p < m then 1 else 0) = x := by
    rw [outM, List.getElem?_map, Option.map_eq_some_iff] at hx; exact hx
  have hr := pick_at ha hs hw hss hm hp hb
  have hbl := (List.getElem?_eq_some_iff.1 hp).1
  constructor
  · apply List.ext_getElem?
    intro j
    by_cases e : j = b
    · subst e
      rw [List.getElem?_set_self (by simpa [outM] using hbl), outM, List.getElem?_map, hp, Option.map_some, if_pos (by omega), ← hpx, if_neg (by omega), Int.add_zero]
    · rw [List.getElem?_set_ne (fun h => e h.symm), outM, outM, List.getElem?_map, List.getElem?_map]
      cases hq : (partsOf a s ws)[j]? with
      | none => rfl
      | some q =>
        have : rank (partsOf a s ws) q ≠ m := fun h => e (rank_one hq hp (by omega))
        by_cases h1 : rank (partsOf a s ws) q < m
        · rw [Option.map_some, Option.map_some, if_pos h1, if_pos (by omega)]
        · rw [Option.map_some, Option.map_some, if_neg h1, if_neg (by omega)]
  · apply List.ext_getElem?
    intro j
    by_cases e : j = b
    · subst e
      rw [List.getElem?_set_self (by simpa [restM] using hbl), restM, List.getElem?_map, hp, Option.map_some, if_pos (by omega)]
    · rw [List.getElem?_set_ne (fun h => e h.symm), restM, restM, List.getElem?_map, List.getElem?_map]
      cases hq : (partsOf a s ws)[j]? with
      | none => rfl
      | some q =>
        have : rank (partsOf a s ws) q ≠ m := fun h => e (rank_one hq hp (by omega))
        by_cases h1 : rank (partsOf a s ws) q < m
        · rw [Option.map_some, Option.map_some, if_pos h1, if_pos (by omega)]
        · rw [Option.map_some, Option.map_some, if_neg h1, if_neg (by omega)]
theorem outM_zero (ps : List Part) : ps.map (·.c) = outM ps 0 := by
  rw [outM]; exact List.map_congr_left fun p _ => by simp
theorem restM_zero (ps : List Part) : ps.map (·.r) = restM ps 0 := by
  rw [restM]; exact List.map_congr_left fun p _ => by simp
theorem outM_end {a s : Int} {ws : List Int} {m : Nat} (h : (m : Int) = leftOf a (partsOf a s ws)) : outM (partsOf a s ws) m = splitW a s ws := by
  rw [outM, splitW, ← h]
  exact List.map_congr_left fun p _ => by
    by_cases h1 : rank (partsOf a s ws) p < m
    · rw [if_pos h1, if_pos (by omega)]
    · rw [if_neg h1, if_neg (by omega)]
theorem outM_length (ps : List Part) (m : Nat) : (outM ps m).length = ps.length := by simp [outM]
theorem restM_length (ps : List Part) (m : Nat) : (restM ps m).length = ps.length := by simp [restM]
theorem out_bounds {ps : List Part} {m b : Nat} {x : Int} (h : ∀ p ∈ ps, 0 ≤ p.c ∧ p.c ≤ 1125899906842624) (hx : (outM ps m)[b]? = some x) : 0 ≤ x ∧ x ≤ 1125899906842625 := by
  rw [outM, List.getElem?_map, Option.map_eq_some_iff] at hx
  obtain ⟨p, hp, rfl⟩ := hx
  have := h p (List.mem_of_getElem? hp)
  split <;> omega
end Go.Proofs.Ythpjlkpkhlkhbaa
