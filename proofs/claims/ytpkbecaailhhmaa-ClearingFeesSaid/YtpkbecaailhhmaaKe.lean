/-
  Texts that belong together, one behind the other; what each of them proves, and under which conditions, its own heading says.
-/
import Derived.Test.YtpkbecaailhhmaaRows
import Derived.RangeFuncNested
import Derived.RangeFuncBound
import Derived.RangeFuncCalls
import Derived.RangeFuncLeaves
import Derived.Shelf.Abstract
import Derived.Shelf.RegionOpen
import Derived.WalkKit
import Derived.OwnWalkIn
import Derived.TacticsInMore
import Derived.LoopNIn
import Derived.LoopIn
import Derived.Shelf.SlSortCmp.WholeK
import Derived.Shelf.SlicesG.Cmp
import Derived.Shelf.SlIterI.Sorted
import Derived.Shelf.SlIterI.Keys
import Derived.Shelf.SortM.Plain
import Derived.Shelf.SortM.SortNone
import Derived.Ground.SlsfProg
import Derived.Ground.SlgcProg
import Derived.Ground.GgzProg
import Derived.Ground.SlgmProg
import Derived.Test.YtpkbecaailhhmaaProg
import Derived.Shelf.RegionOpenPlain
import Derived.OpenShut
import Derived.StillTailTactics
import Derived.Test.YtpkbecaailhhmaaKd
/-
  Walks at the data level, printed by gen.py: what each Go function returns, for data that reads as said. Conditions: those of each theorem.
-/
namespace Go.Proofs.Ytpkbecaailhhmaa
open Go.DL
set_option maxRecDepth 100000
set_option linter.unusedVariables false
set_option linter.unusedSimpArgs false
theorem ret_chkM (n : Int) : Ret Try.prog 75 [(I n)] (I (chkM n)) := by
  refine Ret.of_T Try.func75 (by kernel_rfl) rfl ?_
  refine T_turn [] [0] [] (mk 9 [(0, (dt (I n)))] []) (by kernel_rfl) ?_
  refine T_reg [] [0] [] (mk 9 [(0, (dt (I n)))] []) (True ∧ True ∧ True) (by kernel_rfl) ⟨trivial, trivial, trivial⟩ ?_
  refine T_seq ?_
  rcases Bool.eq_false_or_eq_true (decide (n > 1125899906842624)) with h1 | h1
  · skip
    have g2 : n > 1125899906842624 := of_decide_eq_true (h1)
    refine T_reg [{}, {}, {}, { g := false }, { g := false }, { d := some (B true) }] [8] [] (mk 9 [(8, (dt (B true)))] []) (True ∧ True ∧ True ∧ True ∧ True ∧ True ∧ (((decide (n > 1125899906842624)) == false) = false) ∧ (((decide (n > 1125899906842624)) == false) = false) ∧ True ∧ ((decide (n > 1125899906842624)) = true) ∧ True) (by kernel_rfl) ⟨trivial, trivial, trivial, trivial, trivial, trivial, (by rw [show (decide (n > 1125899906842624)) = true from h1]; rfl), (by rw [show (decide (n > 1125899906842624)) = true from h1]; rfl), trivial, h1, trivial⟩ ?_
    refine T_cond true (by kernel_rfl) (fun _ => ?_) (fun h => absurd (h.symm.trans rfl) (by decide))
    refine T_reg [] [2] [] (mk 9 [(2, (dt (I 50)))] []) (True ∧ True ∧ True) (by kernel_rfl) ⟨trivial, trivial, trivial⟩ ?_
    refine T_ret ?_
    exact ret_here [(dt (I 50))] (by kernel_rfl) (.inl (congrArg I (by first | (rw [chkM, if_pos (by omega)]; done) | (rw [chkM, if_neg (by omega)]; done) : 50 = (chkM n))))
  · skip
    have g3 : ¬ (n > 1125899906842624) := of_decide_eq_false (h1)
    refine T_reg [{}, {}, {}, {}, {}, { d := some (B false) }] [8] [] (mk 9 [(8, (dt (B (decide (n < (-1125899906842624))))))] []) (True ∧ True ∧ True ∧ True ∧ True ∧ True ∧ (((decide (n > 1125899906842624)) == false) = true) ∧ True ∧ (((decide (n > 1125899906842624)) == false) = true) ∧ True ∧ True ∧ ((decide (n > 1125899906842624)) = false) ∧ True) (by kernel_rfl) ⟨trivial, trivial, trivial, trivial, trivial, trivial, (by rw [show (decide (n > 1125899906842624)) = false from h1]; rfl), trivial, (by rw [show (decide (n > 1125899906842624)) = false from h1]; rfl), trivial, trivial, h1, trivial⟩ ?_
    refine T_cond (decide (n < (-1125899906842624))) (by kernel_rfl) (fun h4 => ?_) (fun h4 => ?_)
    · skip
      have g5 : n < (-1125899906842624) := of_decide_eq_true (h4)
      refine T_reg [] [2] [] (mk 9 [(2, (dt (I 50)))] []) (True ∧ True ∧ True) (by kernel_rfl) ⟨trivial, trivial, trivial⟩ ?_
      refine T_ret ?_
      exact ret_here [(dt (I 50))] (by kernel_rfl) (.inl (congrArg I (by first | (rw [chkM, if_pos (by omega)]; done) | (rw [chkM, if_neg (by omega)]; done) : 50 = (chkM n))))
    · skip
      have g6 : ¬ (n < (-1125899906842624)) := of_decide_eq_false (h4)
      refine T_skip ?_
      refine T_reg [] [2] [] (mk 9 [(2, (dt (I 0)))] []) (True ∧ True ∧ True) (by kernel_rfl) ⟨trivial, trivial, trivial⟩ ?_
      refine T_ret ?_
      exact ret_here [(dt (I 0))] (by kernel_rfl) (.inl (congrArg I (by first | (rw [chkM, if_pos (by omega)]; done) | (rw [chkM, if_neg (by omega)]; done) : 0 = (chkM n))))

theorem ret_partM (n k : Int) : Ret Try.prog 66 [(I n), (I k)] (.tup [(I (partM n k).1), (I (partM n k).2)]) := by
  have hc := chkM_cases n
  refine Ret.of_T Try.func66 (by kernel_rfl) rfl ?_
  refine T_turn [] [0, 1] [] (mk 19 [(0, (dt (I n))), (1, (dt (I k)))] []) (by kernel_rfl) ?_
  refine T_reg [] [0, 1] [] (mk 19 [(0, (dt (I n))), (1, (dt (I k)))] []) (True ∧ True ∧ True ∧ True ∧ True) (by kernel_rfl) ⟨trivial, trivial, trivial, trivial, trivial⟩ ?_
  refine T_seq ?_
  refine T_reg [{}, { d := some (I (chkM n)) }] [0, 1, 8] [] (mk 19 [(0, (dt (I n))), (1, (dt (I k))), (8, (dt (B ((chkM n) != 0))))] []) (True ∧ True ∧ True ∧ (Ret Try.prog 75 [(I n)] (I (chkM n))) ∧ True ∧ True ∧ True) (by kernel_rfl) ⟨trivial, trivial, trivial, (ret_chkM _), trivial, trivial, trivial⟩ ?_
  refine T_cond ((chkM n) != 0) (by kernel_rfl) (fun h1 => ?_) (fun h1 => ?_)
  · skip
    have g2 : (chkM n) ≠ 0 := bne_iff_ne.1 (h1)
    refine T_reg [] [4, 5] [] (mk 19 [(4, (dt (I 0))), (5, (dt (I 50)))] []) (True ∧ True ∧ True ∧ True ∧ True) (by kernel_rfl) ⟨trivial, trivial, trivial, trivial, trivial⟩ ?_
    refine T_ret ?_
    exact ret_here [(dt (I 0)), (dt (I 50))] (by kernel_rfl) ⟨(.inl (congrArg I (by first | (rw [partM, if_pos (by omega)]; done) | (rw [partM, if_neg (by omega), if_pos (by omega)]; done) | (rw [partM, if_neg (by omega), if_neg (by omega)]; done) : 0 = (partM n k).1))), (.inl (congrArg I (by first | (rw [partM, if_pos (by omega)]; done) | (rw [partM, if_neg (by omega), if_pos (by omega)]; done) | (rw [partM, if_neg (by omega), if_neg (by omega)]; done) : 50 = (partM n k).2))), trivial⟩
  · skip
    have g3 : (chkM n) = 0 := bne_f (h1)
    refine T_skip ?_
    refine T_seq ?_
    rcases Bool.eq_false_or_eq_true (decide (k < 0)) with h4 | h4
    · skip
      have g5 : k < 0 := of_decide_eq_true (h4)
      refine T_reg [{}, {}, {}, { g := false }, { g := false }, { d := some (B true) }] [0, 1, 14] [] (mk 19 [(0, (dt (I n))), (1, (dt (I k))), (14, (dt (B true)))] []) (True ∧ True ∧ True ∧ True ∧ True ∧ True ∧ (((decide (k < 0)) == false) = false) ∧ (((decide (k < 0)) == false) = false) ∧ True ∧ ((decide (k < 0)) = true) ∧ True) (by kernel_rfl) ⟨trivial, trivial, trivial, trivial, trivial, trivial, (by rw [show (decide (k < 0)) = true from h4]; rfl), (by rw [show (decide (k < 0)) = true from h4]; rfl), trivial, h4, trivial⟩ ?_
      refine T_cond true (by kernel_rfl) (fun _ => ?_) (fun h => absurd (h.symm.trans rfl) (by decide))
      refine T_reg [] [4, 5] [] (mk 19 [(4, (dt (I 0))), (5, (dt (I 1)))] []) (True ∧ True ∧ True ∧ True ∧ True) (by kernel_rfl) ⟨trivial, trivial, trivial, trivial, trivial⟩ ?_
      refine T_ret ?_
      exact ret_here [(dt (I 0)), (dt (I 1))] (by kernel_rfl) ⟨(.inl (congrArg I (by first | (rw [partM, if_pos (by omega)]; done) | (rw [partM, if_neg (by omega), if_pos (by omega)]; done) | (rw [partM, if_neg (by omega), if_neg (by omega)]; done) : 0 = (partM n k).1))), (.inl (congrArg I (by first | (rw [partM, if_pos (by omega)]; done) | (rw [partM, if_neg (by omega), if_pos (by omega)]; done) | (rw [partM, if_neg (by omega), if_neg (by omega)]; done) : 1 = (partM n k).2))), trivial⟩
    · skip
      have g6 : ¬ (k < 0) := of_decide_eq_false (h4)
      refine T_reg [{}, {}, {}, {}, {}, { d := some (B false) }] [0, 1, 14] [] (mk 19 [(0, (dt (I n))), (1, (dt (I k))), (14, (dt (B (decide (k > 1000)))))] []) (True ∧ True ∧ True ∧ True ∧ True ∧ True ∧ (((decide (k < 0)) == false) = true) ∧ True ∧ (((decide (k < 0)) == false) = true) ∧ True ∧ True ∧ ((decide (k < 0)) = false) ∧ True) (by kernel_rfl) ⟨trivial, trivial, trivial, trivial, trivial, trivial, (by rw [show (decide (k < 0)) = false from h4]; rfl), trivial, (by rw [show (decide (k < 0)) = false from h4]; rfl), trivial, trivial, h4, trivial⟩ ?_
      refine T_cond (decide (k > 1000)) (by kernel_rfl) (fun h7 => ?_) (fun h7 => ?_)
      · skip
        have g8 : k > 1000 := of_decide_eq_true (h7)
        refine T_reg [] [4, 5] [] (mk 19 [(4, (dt (I 0))), (5, (dt (I 1)))] []) (True ∧ True ∧ True ∧ True ∧ True) (by kernel_rfl) ⟨trivial, trivial, trivial, trivial, trivial⟩ ?_
        refine T_ret ?_
        exact ret_here [(dt (I 0)), (dt (I 1))] (by kernel_rfl) ⟨(.inl (congrArg I (by first | (rw [partM, if_pos (by omega)]; done) | (rw [partM, if_neg (by omega), if_pos (by omega)]; done) | (rw [partM, if_neg (by omega), if_neg (by omega)]; done) : 0 = (partM n k).1))), (.inl (congrArg I (by first | (rw [partM, if_pos (by omega)]; done) | (rw [partM, if_neg (by omega), if_pos (by omega)]; done) | (rw [partM, if_neg (by omega), if_neg (by omega)]; done) : 1 = (partM n k).2))), trivial⟩
      · skip
        have g9 : ¬ (k > 1000) := of_decide_eq_false (h7)
        refine T_skip ?_
        refine T_reg [{}, {}, { d := some (I (n * k)) }, { d := some (I ((n * k).tdiv 1000)) }] [4, 5] [] (mk 19 [(4, (dt (I ((n * k).tdiv 1000)))), (5, (dt (I 0)))] []) (True ∧ True ∧ True ∧ True ∧ True ∧ (IntKind.i64.wrap (n * k) = (n * k)) ∧ True ∧ ((1000 : Int) ≠ 0 ∧ IntKind.i64.wrap ((n * k).tdiv 1000) = ((n * k).tdiv 1000)) ∧ True ∧ True ∧ True ∧ True ∧ True) (by kernel_rfl) ⟨trivial, trivial, trivial, trivial, trivial, (i64_wrap (by have := part_bounds (n := n) (k := k) (by omega) (by omega) (by omega); omega) (by have := part_bounds (n := n) (k := k) (by omega) (by omega) (by omega); omega)), trivial, ⟨by omega, i64_wrap (by have := part_bounds (n := n) (k := k) (by omega) (by omega) (by omega); omega) (by have := part_bounds (n := n) (k := k) (by omega) (by omega) (by omega); omega)⟩, trivial, trivial, trivial, trivial, trivial⟩ ?_
        refine T_ret ?_
        exact ret_here [(dt (I ((n * k).tdiv 1000))), (dt (I 0))] (by kernel_rfl) ⟨(.inl (congrArg I (by first | (rw [partM, if_pos (by omega)]; done) | (rw [partM, if_neg (by omega), if_pos (by omega)]; done) | (rw [partM, if_neg (by omega), if_neg (by omega)]; done) : ((n * k).tdiv 1000) = (partM n k).1))), (.inl (congrArg I (by first | (rw [partM, if_pos (by omega)]; done) | (rw [partM, if_neg (by omega), if_pos (by omega)]; done) | (rw [partM, if_neg (by omega), if_neg (by omega)]; done) : 0 = (partM n k).2))), trivial⟩

theorem ret_isAmt (n : Int) : Ret Try.prog 74 [(I n)] (B (decide (0 ≤ n ∧ n ≤ 1125899906842624))) := by
  refine Ret.of_T Try.func74 (by kernel_rfl) rfl ?_
  refine T_turn [] [0] [] (mk 9 [(0, (dt (I n)))] []) (by kernel_rfl) ?_
  refine T_reg [] [0] [] (mk 9 [(0, (dt (I n)))] []) (True ∧ True ∧ True) (by kernel_rfl) ⟨trivial, trivial, trivial⟩ ?_
  rcases Bool.eq_false_or_eq_true (decide (n ≥ 0)) with h1 | h1
  · skip
    have g2 : n ≥ 0 := of_decide_eq_true (h1)
    refine T_reg [{}, {}, {}, {}, {}, { d := some (B true) }] [2] [] (mk 9 [(2, (dt (B (decide (n ≤ 1125899906842624)))))] []) (True ∧ True ∧ True ∧ True ∧ True ∧ True ∧ (((decide (n ≥ 0)) == true) = true) ∧ True ∧ (((decide (n ≥ 0)) == true) = true) ∧ True ∧ True ∧ ((decide (n ≥ 0)) = true) ∧ True ∧ True ∧ True) (by kernel_rfl) ⟨trivial, trivial, trivial, trivial, trivial, trivial, (by rw [show (decide (n ≥ 0)) = true from h1]; rfl), trivial, (by rw [show (decide (n ≥ 0)) = true from h1]; rfl), trivial, trivial, h1, trivial, trivial, trivial⟩ ?_
    refine T_ret ?_
    exact ret_here [(dt (B (decide (n ≤ 1125899906842624))))] (by kernel_rfl) (.inl (congrArg B (by symm; simp only [decide_eq_true_eq, decide_eq_false_iff_not, decide_eq_decide]; omega : (decide (n ≤ 1125899906842624)) = (decide (0 ≤ n ∧ n ≤ 1125899906842624)))))
  · skip
    have g3 : ¬ (n ≥ 0) := of_decide_eq_false (h1)
    refine T_reg [{}, {}, {}, { g := false }, { g := false }, { d := some (B false) }] [2] [] (mk 9 [(2, (dt (B false)))] []) (True ∧ True ∧ True ∧ True ∧ True ∧ True ∧ (((decide (n ≥ 0)) == true) = false) ∧ (((decide (n ≥ 0)) == true) = false) ∧ True ∧ ((decide (n ≥ 0)) = false) ∧ True ∧ True ∧ True) (by kernel_rfl) ⟨trivial, trivial, trivial, trivial, trivial, trivial, (by rw [show (decide (n ≥ 0)) = false from h1]; rfl), (by rw [show (decide (n ≥ 0)) = false from h1]; rfl), trivial, h1, trivial, trivial, trivial⟩ ?_
    refine T_ret ?_
    exact ret_here [(dt (B false))] (by kernel_rfl) (.inl (congrArg B (by symm; simp only [decide_eq_true_eq, decide_eq_false_iff_not, decide_eq_decide]; omega : false = (decide (0 ≤ n ∧ n ≤ 1125899906842624)))))

theorem ret_isClub (n : Int) : Ret Try.prog 49 [(I n)] (B (decide (0 ≤ n ∧ n < 192))) := by
  refine Ret.of_T Try.func49 (by kernel_rfl) rfl ?_
  refine T_turn [] [0] [] (mk 9 [(0, (dt (I n)))] []) (by kernel_rfl) ?_
  refine T_reg [] [0] [] (mk 9 [(0, (dt (I n)))] []) (True ∧ True ∧ True) (by kernel_rfl) ⟨trivial, trivial, trivial⟩ ?_
  rcases Bool.eq_false_or_eq_true (decide (n ≥ 0)) with h1 | h1
  · skip
    have g2 : n ≥ 0 := of_decide_eq_true (h1)
    refine T_reg [{}, {}, {}, {}, {}, { d := some (B true) }] [2] [] (mk 9 [(2, (dt (B (decide (n < 192)))))] []) (True ∧ True ∧ True ∧ True ∧ True ∧ True ∧ (((decide (n ≥ 0)) == true) = true) ∧ True ∧ (((decide (n ≥ 0)) == true) = true) ∧ True ∧ True ∧ ((decide (n ≥ 0)) = true) ∧ True ∧ True ∧ True) (by kernel_rfl) ⟨trivial, trivial, trivial, trivial, trivial, trivial, (by rw [show (decide (n ≥ 0)) = true from h1]; rfl), trivial, (by rw [show (decide (n ≥ 0)) = true from h1]; rfl), trivial, trivial, h1, trivial, trivial, trivial⟩ ?_
    refine T_ret ?_
    exact ret_here [(dt (B (decide (n < 192))))] (by kernel_rfl) (.inl (congrArg B (by symm; simp only [decide_eq_true_eq, decide_eq_false_iff_not, decide_eq_decide]; omega : (decide (n < 192)) = (decide (0 ≤ n ∧ n < 192)))))
  · skip
    have g3 : ¬ (n ≥ 0) := of_decide_eq_false (h1)
    refine T_reg [{}, {}, {}, { g := false }, { g := false }, { d := some (B false) }] [2] [] (mk 9 [(2, (dt (B false)))] []) (True ∧ True ∧ True ∧ True ∧ True ∧ True ∧ (((decide (n ≥ 0)) == true) = false) ∧ (((decide (n ≥ 0)) == true) = false) ∧ True ∧ ((decide (n ≥ 0)) = false) ∧ True ∧ True ∧ True) (by kernel_rfl) ⟨trivial, trivial, trivial, trivial, trivial, trivial, (by rw [show (decide (n ≥ 0)) = false from h1]; rfl), (by rw [show (decide (n ≥ 0)) = false from h1]; rfl), trivial, h1, trivial, trivial, trivial⟩ ?_
    refine T_ret ?_
    exact ret_here [(dt (B false))] (by kernel_rfl) (.inl (congrArg B (by symm; simp only [decide_eq_true_eq, decide_eq_false_iff_not, decide_eq_decide]; omega : false = (decide (0 ≤ n ∧ n < 192)))))

theorem ret_chk (f : Fee) (ht : f.t.length ≤ 140737488355328) : Ret Try.prog 63 [(.agg [(I f.a), (I f.p), (I f.m), (I f.s), (.sl 2 (f.t.map encTrain))])] (I (chk f)) := by
  refine Ret.of_T Try.func63 (by kernel_rfl) rfl ?_
  refine T_turn [] [0] [] (mk 88 [(0, (.agg [(.dat (I f.a)), (.dat (I f.p)), (.dat (I f.m)), (.dat (I f.s)), (.dat (.sl 2 (f.t.map encTrain)))]))] []) (by kernel_rfl) ?_
  refine T_reg [] [1] [] (mk 88 [(1, (.one (.ref 1 0)))] [(1, (.var [(.dat (I f.a)), (.dat (I f.p)), (.dat (I f.m)), (.dat (I f.s)), (.dat (.sl 2 (f.t.map encTrain)))]))]) (True ∧ True ∧ True ∧ True ∧ True) (by kernel_rfl) ⟨trivial, trivial, trivial, trivial, trivial⟩ ?_
  rcases Bool.eq_false_or_eq_true (decide (0 ≤ f.m ∧ f.m < 192)) with h1 | h1
  · skip
    have g2 : (0 ≤ f.m ∧ f.m < 192) := of_decide_eq_true (h1)
    refine T_reg [{}, {}, { d := some (B (decide (0 ≤ f.m ∧ f.m < 192))) }, {}, { g := false }, { g := false }, { g := false }, { g := false }, {}, {}, {}, { g := false }, { d := some (B true) }] [1, 3] [] (mk 88 [(1, (.one (.ref 1 0))), (3, (dt (B true)))] [(1, (.var [(.dat (I f.a)), (.dat (I f.p)), (.dat (I f.m)), (.dat (I f.s)), (.dat (.sl 2 (f.t.map encTrain)))]))]) (True ∧ True ∧ True ∧ True ∧ True ∧ (Ret Try.prog 49 [(I f.m)] (B (decide (0 ≤ f.m ∧ f.m < 192)))) ∧ True ∧ True ∧ (((decide (0 ≤ f.m ∧ f.m < 192)) == false) = false) ∧ (((decide (0 ≤ f.m ∧ f.m < 192)) == false) = false) ∧ (((decide (0 ≤ f.m ∧ f.m < 192)) == false) = false) ∧ (((decide (0 ≤ f.m ∧ f.m < 192)) == false) = false) ∧ True ∧ True ∧ True ∧ (((decide (0 ≤ f.m ∧ f.m < 192)) == false) = false) ∧ True ∧ ((decide (0 ≤ f.m ∧ f.m < 192)) = true) ∧ True ∧ True ∧ True) (by kernel_rfl) ⟨trivial, trivial, trivial, trivial, trivial, (ret_isClub _), trivial, trivial, (by rw [show (decide (0 ≤ f.m ∧ f.m < 192)) = true from h1]; rfl), (by rw [show (decide (0 ≤ f.m ∧ f.m < 192)) = true from h1]; rfl), (by rw [show (decide (0 ≤ f.m ∧ f.m < 192)) = true from h1]; rfl), (by rw [show (decide (0 ≤ f.m ∧ f.m < 192)) = true from h1]; rfl), trivial, trivial, trivial, (by rw [show (decide (0 ≤ f.m ∧ f.m < 192)) = true from h1]; rfl), trivial, h1, trivial, trivial, trivial⟩ ?_
    refine T_seq ?_
    rcases Bool.eq_false_or_eq_true (!(decide (0 ≤ f.a ∧ f.a ≤ 1125899906842624))) with h3 | h3
    · skip
      have n4 : (decide (0 ≤ f.a ∧ f.a ≤ 1125899906842624)) = false := not_t h3
      have g5 : ¬ (0 ≤ f.a ∧ f.a ≤ 1125899906842624) := of_decide_eq_false (n4)
      refine T_reg [{}, {}, { d := some (B (decide (0 ≤ f.a ∧ f.a ≤ 1125899906842624))) }, {}, {}, { g := false }, { g := false }, { g := false }, { g := false }, { d := some (B true) }, {}, { g := false }, { g := false }, { d := some (B true) }, {}, { g := false }, { g := false }, { g := false }, { d := some (B true) }, {}, { g := false }, { g := false }, { g := false }, { d := some (B true) }, {}, { g := false }, { g := false }, { g := false }, { g := false }, { d := some (B true) }] [1, 48] [] (mk 88 [(1, (.one (.ref 1 0))), (48, (dt (B true)))] [(1, (.var [(.dat (I f.a)), (.dat (I f.p)), (.dat (I f.m)), (.dat (I f.s)), (.dat (.sl 2 (f.t.map encTrain)))]))]) (True ∧ True ∧ True ∧ True ∧ True ∧ (Ret Try.prog 74 [(I f.a)] (B (decide (0 ≤ f.a ∧ f.a ≤ 1125899906842624)))) ∧ True ∧ True ∧ True ∧ True ∧ (((!(decide (0 ≤ f.a ∧ f.a ≤ 1125899906842624))) == false) = false) ∧ (((!(decide (0 ≤ f.a ∧ f.a ≤ 1125899906842624))) == false) = false) ∧ (((!(decide (0 ≤ f.a ∧ f.a ≤ 1125899906842624))) == false) = false) ∧ (((!(decide (0 ≤ f.a ∧ f.a ≤ 1125899906842624))) == false) = false) ∧ True ∧ ((!(decide (0 ≤ f.a ∧ f.a ≤ 1125899906842624))) = true) ∧ True ∧ True ∧ ((true == false) = false) ∧ ((true == false) = false) ∧ True ∧ (true = true) ∧ True ∧ True ∧ ((true == false) = false) ∧ ((true == false) = false) ∧ ((true == false) = false) ∧ True ∧ (true = true) ∧ True ∧ True ∧ ((true == false) = false) ∧ ((true == false) = false) ∧ ((true == false) = false) ∧ True ∧ (true = true) ∧ True ∧ True ∧ ((true == false) = false) ∧ ((true == false) = false) ∧ ((true == false) = false) ∧ ((true == false) = false) ∧ True ∧ (true = true) ∧ True) (by kernel_rfl) ⟨trivial, trivial, trivial, trivial, trivial, (ret_isAmt _), trivial, trivial, trivial, trivial, (by rw [show (!(decide (0 ≤ f.a ∧ f.a ≤ 1125899906842624))) = true from h3]; rfl), (by rw [show (!(decide (0 ≤ f.a ∧ f.a ≤ 1125899906842624))) = true from h3]; rfl), (by rw [show (!(decide (0 ≤ f.a ∧ f.a ≤ 1125899906842624))) = true from h3]; rfl), (by rw [show (!(decide (0 ≤ f.a ∧ f.a ≤ 1125899906842624))) = true from h3]; rfl), trivial, h3, trivial, trivial, (by rw [show true = true from rfl]; rfl), (by rw [show true = true from rfl]; rfl), trivial, rfl, trivial, trivial, (by rw [show true = true from rfl]; rfl), (by rw [show true = true from rfl]; rfl), (by rw [show true = true from rfl]; rfl), trivial, rfl, trivial, trivial, (by rw [show true = true from rfl]; rfl), (by rw [show true = true from rfl]; rfl), (by rw [show true = true from rfl]; rfl), trivial, rfl, trivial, trivial, (by rw [show true = true from rfl]; rfl), (by rw [show true = true from rfl]; rfl), (by rw [show true = true from rfl]; rfl), (by rw [show true = true from rfl]; rfl), trivial, rfl, trivial⟩ ?_
      refine T_cond true (by kernel_rfl) (fun _ => ?_) (fun h => absurd (h.symm.trans rfl) (by decide))
      refine T_reg [] [2] [1] (mk 88 [(2, (dt (I 380)))] []) (True ∧ True ∧ True) (by kernel_rfl) ⟨trivial, trivial, trivial⟩ ?_
      refine T_ret ?_
      exact ret_here [(dt (I 380))] (by kernel_rfl) (.inl (congrArg I (by first | exact chk_bad (by unfold headOK; simp only [decide_eq_true_eq, decide_eq_false_iff_not] at *; omega) | exact chk_bad2 (trOK_stop iv (by assumption) (by first | (simp only [decide_eq_true_eq, decide_eq_false_iff_not] at *; omega) | omega | (simp only [decide_eq_true_eq, decide_eq_false_iff_not] at *; by_cases hk : k = 0 <;> first | omega | (have := ip hk; omega)))) | exact chk_ok (by unfold headOK; simp only [decide_eq_true_eq, decide_eq_false_iff_not] at *; omega) (trOK_end iv (by omega)) : 380 = (chk f))))
    · skip
      have n6 : (decide (0 ≤ f.a ∧ f.a ≤ 1125899906842624)) = true := not_f h3
      have g7 : (0 ≤ f.a ∧ f.a ≤ 1125899906842624) := of_decide_eq_true (n6)
      rcases Bool.eq_false_or_eq_true (!(decide (0 ≤ f.p ∧ f.p ≤ 1125899906842624))) with h8 | h8
      · skip
        have n9 : (decide (0 ≤ f.p ∧ f.p ≤ 1125899906842624)) = false := not_t h8
        have g10 : ¬ (0 ≤ f.p ∧ f.p ≤ 1125899906842624) := of_decide_eq_false (n9)
        refine T_reg [{}, {}, { d := some (B (decide (0 ≤ f.a ∧ f.a ≤ 1125899906842624))) }, {}, {}, {}, {}, { d := some (B (decide (0 ≤ f.p ∧ f.p ≤ 1125899906842624))) }, {}, { d := some (B false) }, {}, { g := false }, { g := false }, { d := some (B true) }, {}, { g := false }, { g := false }, { g := false }, { d := some (B true) }, {}, { g := false }, { g := false }, { g := false }, { d := some (B true) }, {}, { g := false }, { g := false }, { g := false }, { g := false }, { d := some (B true) }] [1, 48] [] (mk 88 [(1, (.one (.ref 1 0))), (48, (dt (B true)))] [(1, (.var [(.dat (I f.a)), (.dat (I f.p)), (.dat (I f.m)), (.dat (I f.s)), (.dat (.sl 2 (f.t.map encTrain)))]))]) (True ∧ True ∧ True ∧ True ∧ True ∧ (Ret Try.prog 74 [(I f.a)] (B (decide (0 ≤ f.a ∧ f.a ≤ 1125899906842624)))) ∧ True ∧ True ∧ True ∧ True ∧ (((!(decide (0 ≤ f.a ∧ f.a ≤ 1125899906842624))) == false) = true) ∧ True ∧ (((!(decide (0 ≤ f.a ∧ f.a ≤ 1125899906842624))) == false) = true) ∧ True ∧ (((!(decide (0 ≤ f.a ∧ f.a ≤ 1125899906842624))) == false) = true) ∧ (Ret Try.prog 74 [(I f.p)] (B (decide (0 ≤ f.p ∧ f.p ≤ 1125899906842624)))) ∧ (((!(decide (0 ≤ f.a ∧ f.a ≤ 1125899906842624))) == false) = true) ∧ True ∧ True ∧ ((!(decide (0 ≤ f.a ∧ f.a ≤ 1125899906842624))) = false) ∧ True ∧ True ∧ (((!(decide (0 ≤ f.p ∧ f.p ≤ 1125899906842624))) == false) = false) ∧ (((!(decide (0 ≤ f.p ∧ f.p ≤ 1125899906842624))) == false) = false) ∧ True ∧ ((!(decide (0 ≤ f.p ∧ f.p ≤ 1125899906842624))) = true) ∧ True ∧ True ∧ ((true == false) = false) ∧ ((true == false) = false) ∧ ((true == false) = false) ∧ True ∧ (true = true) ∧ True ∧ True ∧ ((true == false) = false) ∧ ((true == false) = false) ∧ ((true == false) = false) ∧ True ∧ (true = true) ∧ True ∧ True ∧ ((true == false) = false) ∧ ((true == false) = false) ∧ ((true == false) = false) ∧ ((true == false) = false) ∧ True ∧ (true = true) ∧ True) (by kernel_rfl) ⟨trivial, trivial, trivial, trivial, trivial, (ret_isAmt _), trivial, trivial, trivial, trivial, (by rw [show (!(decide (0 ≤ f.a ∧ f.a ≤ 1125899906842624))) = false from h3]; rfl), trivial, (by rw [show (!(decide (0 ≤ f.a ∧ f.a ≤ 1125899906842624))) = false from h3]; rfl), trivial, (by rw [show (!(decide (0 ≤ f.a ∧ f.a ≤ 1125899906842624))) = false from h3]; rfl), (ret_isAmt _), (by rw [show (!(decide (0 ≤ f.a ∧ f.a ≤ 1125899906842624))) = false from h3]; rfl), trivial, trivial, h3, trivial, trivial, (by rw [show (!(decide (0 ≤ f.p ∧ f.p ≤ 1125899906842624))) = true from h8]; rfl), (by rw [show (!(decide (0 ≤ f.p ∧ f.p ≤ 1125899906842624))) = true from h8]; rfl), trivial, h8, trivial, trivial, (by rw [show true = true from rfl]; rfl), (by rw [show true = true from rfl]; rfl), (by rw [show true = true from rfl]; rfl), trivial, rfl, trivial, trivial, (by rw [show true = true from rfl]; rfl), (by rw [show true = true from rfl]; rfl), (by rw [show true = true from rfl]; rfl), trivial, rfl, trivial, trivial, (by rw [show true = true from rfl]; rfl), (by rw [show true = true from rfl]; rfl), (by rw [show true = true from rfl]; rfl), (by rw [show true = true from rfl]; rfl), trivial, rfl, trivial⟩ ?_
        refine T_cond true (by kernel_rfl) (fun _ => ?_) (fun h => absurd (h.symm.trans rfl) (by decide))
        refine T_reg [] [2] [1] (mk 88 [(2, (dt (I 380)))] []) (True ∧ True ∧ True) (by kernel_rfl) ⟨trivial, trivial, trivial⟩ ?_
        refine T_ret ?_
        exact ret_here [(dt (I 380))] (by kernel_rfl) (.inl (congrArg I (by first | exact chk_bad (by unfold headOK; simp only [decide_eq_true_eq, decide_eq_false_iff_not] at *; omega) | exact chk_bad2 (trOK_stop iv (by assumption) (by first | (simp only [decide_eq_true_eq, decide_eq_false_iff_not] at *; omega) | omega | (simp only [decide_eq_true_eq, decide_eq_false_iff_not] at *; by_cases hk : k = 0 <;> first | omega | (have := ip hk; omega)))) | exact chk_ok (by unfold headOK; simp only [decide_eq_true_eq, decide_eq_false_iff_not] at *; omega) (trOK_end iv (by omega)) : 380 = (chk f))))
      · skip
        have n11 : (decide (0 ≤ f.p ∧ f.p ≤ 1125899906842624)) = true := not_f h8
        have g12 : (0 ≤ f.p ∧ f.p ≤ 1125899906842624) := of_decide_eq_true (n11)
        rcases Bool.eq_false_or_eq_true (decide (f.s < 0)) with h13 | h13
        · skip
          have g14 : f.s < 0 := of_decide_eq_true (h13)
          refine T_reg [{}, {}, { d := some (B (decide (0 ≤ f.a ∧ f.a ≤ 1125899906842624))) }, {}, {}, {}, {}, { d := some (B (decide (0 ≤ f.p ∧ f.p ≤ 1125899906842624))) }, {}, { d := some (B false) }, {}, {}, {}, { d := some (B false) }, {}, {}, {}, {}, { d := some (B false) }, {}, { g := false }, { g := false }, { g := false }, { d := some (B true) }, {}, { g := false }, { g := false }, { g := false }, { g := false }, { d := some (B true) }] [1, 48] [] (mk 88 [(1, (.one (.ref 1 0))), (48, (dt (B true)))] [(1, (.var [(.dat (I f.a)), (.dat (I f.p)), (.dat (I f.m)), (.dat (I f.s)), (.dat (.sl 2 (f.t.map encTrain)))]))]) (True ∧ True ∧ True ∧ True ∧ True ∧ (Ret Try.prog 74 [(I f.a)] (B (decide (0 ≤ f.a ∧ f.a ≤ 1125899906842624)))) ∧ True ∧ True ∧ True ∧ True ∧ (((!(decide (0 ≤ f.a ∧ f.a ≤ 1125899906842624))) == false) = true) ∧ True ∧ (((!(decide (0 ≤ f.a ∧ f.a ≤ 1125899906842624))) == false) = true) ∧ True ∧ (((!(decide (0 ≤ f.a ∧ f.a ≤ 1125899906842624))) == false) = true) ∧ (Ret Try.prog 74 [(I f.p)] (B (decide (0 ≤ f.p ∧ f.p ≤ 1125899906842624)))) ∧ (((!(decide (0 ≤ f.a ∧ f.a ≤ 1125899906842624))) == false) = true) ∧ True ∧ True ∧ ((!(decide (0 ≤ f.a ∧ f.a ≤ 1125899906842624))) = false) ∧ True ∧ True ∧ (((!(decide (0 ≤ f.p ∧ f.p ≤ 1125899906842624))) == false) = true) ∧ True ∧ (((!(decide (0 ≤ f.p ∧ f.p ≤ 1125899906842624))) == false) = true) ∧ True ∧ True ∧ ((!(decide (0 ≤ f.p ∧ f.p ≤ 1125899906842624))) = false) ∧ True ∧ True ∧ ((false == false) = true) ∧ True ∧ ((false == false) = true) ∧ True ∧ ((false == false) = true) ∧ True ∧ True ∧ (false = false) ∧ True ∧ True ∧ (((decide (f.s < 0)) == false) = false) ∧ (((decide (f.s < 0)) == false) = false) ∧ (((decide (f.s < 0)) == false) = false) ∧ True ∧ ((decide (f.s < 0)) = true) ∧ True ∧ True ∧ ((true == false) = false) ∧ ((true == false) = false) ∧ ((true == false) = false) ∧ ((true == false) = false) ∧ True ∧ (true = true) ∧ True) (by kernel_rfl) ⟨trivial, trivial, trivial, trivial, trivial, (ret_isAmt _), trivial, trivial, trivial, trivial, (by rw [show (!(decide (0 ≤ f.a ∧ f.a ≤ 1125899906842624))) = false from h3]; rfl), trivial, (by rw [show (!(decide (0 ≤ f.a ∧ f.a ≤ 1125899906842624))) = false from h3]; rfl), trivial, (by rw [show (!(decide (0 ≤ f.a ∧ f.a ≤ 1125899906842624))) = false from h3]; rfl), (ret_isAmt _), (by rw [show (!(decide (0 ≤ f.a ∧ f.a ≤ 1125899906842624))) = false from h3]; rfl), trivial, trivial, h3, trivial, trivial, (by rw [show (!(decide (0 ≤ f.p ∧ f.p ≤ 1125899906842624))) = false from h8]; rfl), trivial, (by rw [show (!(decide (0 ≤ f.p ∧ f.p ≤ 1125899906842624))) = false from h8]; rfl), trivial, trivial, h8, trivial, trivial, (by rw [show false = false from rfl]; rfl), trivial, (by rw [show false = false from rfl]; rfl), trivial, (by rw [show false = false from rfl]; rfl), trivial, trivial, rfl, trivial, trivial, (by rw [show (decide (f.s < 0)) = true from h13]; rfl), (by rw [show (decide (f.s < 0)) = true from h13]; rfl), (by rw [show (decide (f.s < 0)) = true from h13]; rfl), trivial, h13, trivial, trivial, (by rw [show true = true from rfl]; rfl), (by rw [show true = true from rfl]; rfl), (by rw [show true = true from rfl]; rfl), (by rw [show true = true from rfl]; rfl), trivial, rfl, trivial⟩ ?_
          refine T_cond true (by kernel_rfl) (fun _ => ?_) (fun h => absurd (h.symm.trans rfl) (by decide))
          refine T_reg [] [2] [1] (mk 88 [(2, (dt (I 380)))] []) (True ∧ True ∧ True) (by kernel_rfl) ⟨trivial, trivial, trivial⟩ ?_
          refine T_ret ?_
          exact ret_here [(dt (I 380))] (by kernel_rfl) (.inl (congrArg I (by first | exact chk_bad (by unfold headOK; simp only [decide_eq_true_eq, decide_eq_false_iff_not] at *; omega) | exact chk_bad2 (trOK_stop iv (by assumption) (by first | (simp only [decide_eq_true_eq, decide_eq_false_iff_not] at *; omega) | omega | (simp only [decide_eq_true_eq, decide_eq_false_iff_not] at *; by_cases hk : k = 0 <;> first | omega | (have := ip hk; omega)))) | exact chk_ok (by unfold headOK; simp only [decide_eq_true_eq, decide_eq_false_iff_not] at *; omega) (trOK_end iv (by omega)) : 380 = (chk f))))
        · skip
          have g15 : ¬ (f.s < 0) := of_decide_eq_false (h13)
          rcases Bool.eq_false_or_eq_true (decide (f.s > 1000)) with h16 | h16
          · skip
            have g17 : f.s > 1000 := of_decide_eq_true (h16)
            refine T_reg [{}, {}, { d := some (B (decide (0 ≤ f.a ∧ f.a ≤ 1125899906842624))) }, {}, {}, {}, {}, { d := some (B (decide (0 ≤ f.p ∧ f.p ≤ 1125899906842624))) }, {}, { d := some (B false) }, {}, {}, {}, { d := some (B false) }, {}, {}, {}, {}, { d := some (B false) }, {}, {}, {}, {}, { d := some (B false) }, {}, { g := false }, { g := false }, { g := false }, { g := false }, { d := some (B true) }] [1, 48] [] (mk 88 [(1, (.one (.ref 1 0))), (48, (dt (B true)))] [(1, (.var [(.dat (I f.a)), (.dat (I f.p)), (.dat (I f.m)), (.dat (I f.s)), (.dat (.sl 2 (f.t.map encTrain)))]))]) (True ∧ True ∧ True ∧ True ∧ True ∧ (Ret Try.prog 74 [(I f.a)] (B (decide (0 ≤ f.a ∧ f.a ≤ 1125899906842624)))) ∧ True ∧ True ∧ True ∧ True ∧ (((!(decide (0 ≤ f.a ∧ f.a ≤ 1125899906842624))) == false) = true) ∧ True ∧ (((!(decide (0 ≤ f.a ∧ f.a ≤ 1125899906842624))) == false) = true) ∧ True ∧ (((!(decide (0 ≤ f.a ∧ f.a ≤ 1125899906842624))) == false) = true) ∧ (Ret Try.prog 74 [(I f.p)] (B (decide (0 ≤ f.p ∧ f.p ≤ 1125899906842624)))) ∧ (((!(decide (0 ≤ f.a ∧ f.a ≤ 1125899906842624))) == false) = true) ∧ True ∧ True ∧ ((!(decide (0 ≤ f.a ∧ f.a ≤ 1125899906842624))) = false) ∧ True ∧ True ∧ (((!(decide (0 ≤ f.p ∧ f.p ≤ 1125899906842624))) == false) = true) ∧ True ∧ (((!(decide (0 ≤ f.p ∧ f.p ≤ 1125899906842624))) == false) = true) ∧ True ∧ True ∧ ((!(decide (0 ≤ f.p ∧ f.p ≤ 1125899906842624))) = false) ∧ True ∧ True ∧ ((false == false) = true) ∧ True ∧ ((false == false) = true) ∧ True ∧ ((false == false) = true) ∧ True ∧ True ∧ (false = false) ∧ True ∧ True ∧ (((decide (f.s < 0)) == false) = true) ∧ True ∧ (((decide (f.s < 0)) == false) = true) ∧ True ∧ (((decide (f.s < 0)) == false) = true) ∧ True ∧ True ∧ ((decide (f.s < 0)) = false) ∧ True ∧ True ∧ (((decide (f.s > 1000)) == false) = false) ∧ (((decide (f.s > 1000)) == false) = false) ∧ (((decide (f.s > 1000)) == false) = false) ∧ (((decide (f.s > 1000)) == false) = false) ∧ True ∧ ((decide (f.s > 1000)) = true) ∧ True) (by kernel_rfl) ⟨trivial, trivial, trivial, trivial, trivial, (ret_isAmt _), trivial, trivial, trivial, trivial, (by rw [show (!(decide (0 ≤ f.a ∧ f.a ≤ 1125899906842624))) = false from h3]; rfl), trivial, (by rw [show (!(decide (0 ≤ f.a ∧ f.a ≤ 1125899906842624))) = false from h3]; rfl), trivial, (by rw [show (!(decide (0 ≤ f.a ∧ f.a ≤ 1125899906842624))) = false from h3]; rfl), (ret_isAmt _), (by rw [show (!(decide (0 ≤ f.a ∧ f.a ≤ 1125899906842624))) = false from h3]; rfl), trivial, trivial, h3, trivial, trivial, (by rw [show (!(decide (0 ≤ f.p ∧ f.p ≤ 1125899906842624))) = false from h8]; rfl), trivial, (by rw [show (!(decide (0 ≤ f.p ∧ f.p ≤ 1125899906842624))) = false from h8]; rfl), trivial, trivial, h8, trivial, trivial, (by rw [show false = false from rfl]; rfl), trivial, (by rw [show false = false from rfl]; rfl), trivial, (by rw [show false = false from rfl]; rfl), trivial, trivial, rfl, trivial, trivial, (by rw [show (decide (f.s < 0)) = false from h13]; rfl), trivial, (by rw [show (decide (f.s < 0)) = false from h13]; rfl), trivial, (by rw [show (decide (f.s < 0)) = false from h13]; rfl), trivial, trivial, h13, trivial, trivial, (by rw [show (decide (f.s > 1000)) = true from h16]; rfl), (by rw [show (decide (f.s > 1000)) = true from h16]; rfl), (by rw [show (decide (f.s > 1000)) = true from h16]; rfl), (by rw [show (decide (f.s > 1000)) = true from h16]; rfl), trivial, h16, trivial⟩ ?_
            refine T_cond true (by kernel_rfl) (fun _ => ?_) (fun h => absurd (h.symm.trans rfl) (by decide))
            refine T_reg [] [2] [1] (mk 88 [(2, (dt (I 380)))] []) (True ∧ True ∧ True) (by kernel_rfl) ⟨trivial, trivial, trivial⟩ ?_
            refine T_ret ?_
            exact ret_here [(dt (I 380))] (by kernel_rfl) (.inl (congrArg I (by first | exact chk_bad (by unfold headOK; simp only [decide_eq_true_eq, decide_eq_false_iff_not] at *; omega) | exact chk_bad2 (trOK_stop iv (by assumption) (by first | (simp only [decide_eq_true_eq, decide_eq_false_iff_not] at *; omega) | omega | (simp only [decide_eq_true_eq, decide_eq_false_iff_not] at *; by_cases hk : k = 0 <;> first | omega | (have := ip hk; omega)))) | exact chk_ok (by unfold headOK; simp only [decide_eq_true_eq, decide_eq_false_iff_not] at *; omega) (trOK_end iv (by omega)) : 380 = (chk f))))
          · skip
            have g18 : ¬ (f.s > 1000) := of_decide_eq_false (h16)
            refine T_reg [{}, {}, { d := some (B (decide (0 ≤ f.a ∧ f.a ≤ 1125899906842624))) }, {}, {}, {}, {}, { d := some (B (decide (0 ≤ f.p ∧ f.p ≤ 1125899906842624))) }, {}, { d := some (B false) }, {}, {}, {}, { d := some (B false) }, {}, {}, {}, {}, { d := some (B false) }, {}, {}, {}, {}, { d := some (B false) }, {}, {}, {}, { d := some (I ((f.t.length : Nat) : Int)) }, {}, { d := some (B false) }] [1, 48] [] (mk 88 [(1, (.one (.ref 1 0))), (48, (dt (B (decide (((f.t.length : Nat) : Int) > 40)))))] [(1, (.var [(.dat (I f.a)), (.dat (I f.p)), (.dat (I f.m)), (.dat (I f.s)), (.dat (.sl 2 (f.t.map encTrain)))]))]) (True ∧ True ∧ True ∧ True ∧ True ∧ (Ret Try.prog 74 [(I f.a)] (B (decide (0 ≤ f.a ∧ f.a ≤ 1125899906842624)))) ∧ True ∧ True ∧ True ∧ True ∧ (((!(decide (0 ≤ f.a ∧ f.a ≤ 1125899906842624))) == false) = true) ∧ True ∧ (((!(decide (0 ≤ f.a ∧ f.a ≤ 1125899906842624))) == false) = true) ∧ True ∧ (((!(decide (0 ≤ f.a ∧ f.a ≤ 1125899906842624))) == false) = true) ∧ (Ret Try.prog 74 [(I f.p)] (B (decide (0 ≤ f.p ∧ f.p ≤ 1125899906842624)))) ∧ (((!(decide (0 ≤ f.a ∧ f.a ≤ 1125899906842624))) == false) = true) ∧ True ∧ True ∧ ((!(decide (0 ≤ f.a ∧ f.a ≤ 1125899906842624))) = false) ∧ True ∧ True ∧ (((!(decide (0 ≤ f.p ∧ f.p ≤ 1125899906842624))) == false) = true) ∧ True ∧ (((!(decide (0 ≤ f.p ∧ f.p ≤ 1125899906842624))) == false) = true) ∧ True ∧ True ∧ ((!(decide (0 ≤ f.p ∧ f.p ≤ 1125899906842624))) = false) ∧ True ∧ True ∧ ((false == false) = true) ∧ True ∧ ((false == false) = true) ∧ True ∧ ((false == false) = true) ∧ True ∧ True ∧ (false = false) ∧ True ∧ True ∧ (((decide (f.s < 0)) == false) = true) ∧ True ∧ (((decide (f.s < 0)) == false) = true) ∧ True ∧ (((decide (f.s < 0)) == false) = true) ∧ True ∧ True ∧ ((decide (f.s < 0)) = false) ∧ True ∧ True ∧ (((decide (f.s > 1000)) == false) = true) ∧ True ∧ (((decide (f.s > 1000)) == false) = true) ∧ True ∧ (((decide (f.s > 1000)) == false) = true) ∧ (True ∧ D.int .i64 ((f.t.map encTrain).length : Int) = (I ((f.t.length : Nat) : Int))) ∧ (((decide (f.s > 1000)) == false) = true) ∧ True ∧ True ∧ ((decide (f.s > 1000)) = false) ∧ True) (by kernel_rfl) ⟨trivial, trivial, trivial, trivial, trivial, (ret_isAmt _), trivial, trivial, trivial, trivial, (by rw [show (!(decide (0 ≤ f.a ∧ f.a ≤ 1125899906842624))) = false from h3]; rfl), trivial, (by rw [show (!(decide (0 ≤ f.a ∧ f.a ≤ 1125899906842624))) = false from h3]; rfl), trivial, (by rw [show (!(decide (0 ≤ f.a ∧ f.a ≤ 1125899906842624))) = false from h3]; rfl), (ret_isAmt _), (by rw [show (!(decide (0 ≤ f.a ∧ f.a ≤ 1125899906842624))) = false from h3]; rfl), trivial, trivial, h3, trivial, trivial, (by rw [show (!(decide (0 ≤ f.p ∧ f.p ≤ 1125899906842624))) = false from h8]; rfl), trivial, (by rw [show (!(decide (0 ≤ f.p ∧ f.p ≤ 1125899906842624))) = false from h8]; rfl), trivial, trivial, h8, trivial, trivial, (by rw [show false = false from rfl]; rfl), trivial, (by rw [show false = false from rfl]; rfl), trivial, (by rw [show false = false from rfl]; rfl), trivial, trivial, rfl, trivial, trivial, (by rw [show (decide (f.s < 0)) = false from h13]; rfl), trivial, (by rw [show (decide (f.s < 0)) = false from h13]; rfl), trivial, (by rw [show (decide (f.s < 0)) = false from h13]; rfl), trivial, trivial, h13, trivial, trivial, (by rw [show (decide (f.s > 1000)) = false from h16]; rfl), trivial, (by rw [show (decide (f.s > 1000)) = false from h16]; rfl), trivial, (by rw [show (decide (f.s > 1000)) = false from h16]; rfl), ⟨trivial, by rw [List.length_map]⟩, (by rw [show (decide (f.s > 1000)) = false from h16]; rfl), trivial, trivial, h16, trivial⟩ ?_
            refine T_cond (decide (((f.t.length : Nat) : Int) > 40)) (by kernel_rfl) (fun h19 => ?_) (fun h19 => ?_)
            · skip
              have g20 : ((f.t.length : Nat) : Int) > 40 := of_decide_eq_true (h19)
              refine T_reg [] [2] [1] (mk 88 [(2, (dt (I 380)))] []) (True ∧ True ∧ True) (by kernel_rfl) ⟨trivial, trivial, trivial⟩ ?_
              refine T_ret ?_
              exact ret_here [(dt (I 380))] (by kernel_rfl) (.inl (congrArg I (by first | exact chk_bad (by unfold headOK; simp only [decide_eq_true_eq, decide_eq_false_iff_not] at *; omega) | exact chk_bad2 (trOK_stop iv (by assumption) (by first | (simp only [decide_eq_true_eq, decide_eq_false_iff_not] at *; omega) | omega | (simp only [decide_eq_true_eq, decide_eq_false_iff_not] at *; by_cases hk : k = 0 <;> first | omega | (have := ip hk; omega)))) | exact chk_ok (by unfold headOK; simp only [decide_eq_true_eq, decide_eq_false_iff_not] at *; omega) (trOK_end iv (by omega)) : 380 = (chk f))))
            · skip
              have g21 : ¬ (((f.t.length : Nat) : Int) > 40) := of_decide_eq_false (h19)
              refine T_skip ?_
              refine T_seq ?_
              refine T_reg [{}, {}, { d := some (I ((f.t.length : Nat) : Int)) }] [1, 50, 51, 52] [] (mk 88 [(1, (.one (.ref 1 0))), (50, (dt (.sl 2 (f.t.map encTrain)))), (51, (dt (I ((f.t.length : Nat) : Int)))), (52, (dt (I 0)))] [(1, (.var [(.dat (I f.a)), (.dat (I f.p)), (.dat (I f.m)), (.dat (I f.s)), (.dat (.sl 2 (f.t.map encTrain)))]))]) (True ∧ True ∧ True ∧ True ∧ True ∧ (True ∧ D.int .i64 ((f.t.map encTrain).length : Int) = (I ((f.t.length : Nat) : Int))) ∧ True ∧ True ∧ True) (by kernel_rfl) ⟨trivial, trivial, trivial, trivial, trivial, ⟨trivial, by rw [List.length_map]⟩, trivial, trivial, trivial⟩ ?_
              refine T_block ?_
              refine T_turn [] [1, 50, 51, 52] [] ((fun ((k, e) : Nat × Train) => (mk 88 [(1, (.one (.ref 1 0))), (50, (dt (.sl 2 (f.t.map encTrain)))), (51, (dt (I ((f.t.length : Nat) : Int)))), (52, (dt (I ((k : Nat) : Int))))] [(1, (.var [(.dat (I f.a)), (.dat (I f.p)), (.dat (I f.m)), (.dat (I f.s)), (.dat (.sl 2 (f.t.map encTrain)))]))])) (0, ⟨-1, 0⟩)) (by kernel_rfl) (T_loop (α := Nat × Train) (fun ((k, e) : Nat × Train) => (mk 88 [(1, (.one (.ref 1 0))), (50, (dt (.sl 2 (f.t.map encTrain)))), (51, (dt (I ((f.t.length : Nat) : Int)))), (52, (dt (I ((k : Nat) : Int))))] [(1, (.var [(.dat (I f.a)), (.dat (I f.p)), (.dat (I f.m)), (.dat (I f.s)), (.dat (.sl 2 (f.t.map encTrain)))]))])) (fun ((k, e) : Nat × Train) => (k ≤ (f.t).length) ∧ (trOK e.c (f.t.drop k) = trOK (-1) f.t) ∧ (k = 0 → e.c = -1) ∧ (0 < k → f.t[k - 1]? = some e) ∧ True) (fun ((k, e) : Nat × Train) => (f.t).length - k) (0, ⟨-1, 0⟩) ⟨Nat.zero_le _, rfl, fun _ => rfl, fun h => absurd h (Nat.lt_irrefl _), trivial⟩ ?_)
              rintro ⟨k, e⟩ ⟨ik, iv, ip, ip2, _⟩
              refine T_reg [] [1, 50, 51, 52, 53] [] (mk 88 [(1, (.one (.ref 1 0))), (50, (dt (.sl 2 (f.t.map encTrain)))), (51, (dt (I ((f.t.length : Nat) : Int)))), (52, (dt (I ((k : Nat) : Int)))), (53, (dt (B (decide (((k : Nat) : Int) < ((f.t.length : Nat) : Int))))))] [(1, (.var [(.dat (I f.a)), (.dat (I f.p)), (.dat (I f.m)), (.dat (I f.s)), (.dat (.sl 2 (f.t.map encTrain)))]))]) (True ∧ True ∧ True) (by kernel_rfl) ⟨trivial, trivial, trivial⟩ ?_
              refine T_seq ?_
              refine T_cond (decide (((k : Nat) : Int) < ((f.t.length : Nat) : Int))) (by kernel_rfl) (fun h22 => ?_) (fun h22 => ?_)
              · skip
                have g23 : ((k : Nat) : Int) < ((f.t.length : Nat) : Int) := of_decide_eq_true (h22)
                refine T_skip ?_
                refine T_seq ?_
                refine T_block ?_
                have lt24 : k < (f.t).length := by first | omega | (simp only [List.length_set, List.length_map, List.length_append, List.length_cons, List.length_nil] at *; omega)
                obtain ⟨x25, hx26⟩ : ∃ x, (f.t)[k]? = some x := ⟨_, List.getElem?_eq_getElem lt24⟩
                refine T_reg [{}, { d := some (.agg [(I x25.c), (I x25.s)]) }] [1, 4, 5, 50, 51, 52] [] (mk 88 [(1, (.one (.ref 1 0))), (4, (dt (I ((k : Nat) : Int)))), (5, (.one (.ref 5 0))), (50, (dt (.sl 2 (f.t.map encTrain)))), (51, (dt (I ((f.t.length : Nat) : Int)))), (52, (dt (I ((k : Nat) : Int))))] [(5, (.var [(.dat (I x25.c)), (.dat (I x25.s))])), (1, (.var [(.dat (I f.a)), (.dat (I f.p)), (.dat (I f.m)), (.dat (I f.s)), (.dat (.sl 2 (f.t.map encTrain)))]))]) (True ∧ True ∧ True ∧ (0 ≤ ((k : Nat) : Int) ∧ (f.t.map encTrain)[k]? = some (.agg [(I x25.c), (I x25.s)])) ∧ True ∧ True ∧ True ∧ True ∧ True ∧ True ∧ True ∧ True ∧ True) (by kernel_rfl) ⟨trivial, trivial, trivial, ⟨by omega, by rw [List.getElem?_map, hx26]; rfl⟩, trivial, trivial, trivial, trivial, trivial, trivial, trivial, trivial, trivial⟩ ?_
                rcases Bool.eq_false_or_eq_true (!(decide (0 ≤ x25.c ∧ x25.c < 192))) with h27 | h27
                · skip
                  have n28 : (decide (0 ≤ x25.c ∧ x25.c < 192)) = false := not_t h27
                  have g29 : ¬ (0 ≤ x25.c ∧ x25.c < 192) := of_decide_eq_false (n28)
                  refine T_regD 30 [{}, {}, { d := some (B (decide (0 ≤ x25.c ∧ x25.c < 192))) }, {}, {}, { g := false }, { g := false }, { g := false }, { d := some (B true) }, {}, { g := false }, { g := false }, { g := false }, { d := some (B true) }, {}, { g := false }, { g := false }, { g := false }, {}, {}, {}, {}, {}, {}, {}, {}, {}, {}, { g := false }, { d := some (B true) }] [1, 50, 51, 52, 86] [5] (mk 88 [(1, (.one (.ref 1 0))), (50, (dt (.sl 2 (f.t.map encTrain)))), (51, (dt (I ((f.t.length : Nat) : Int)))), (52, (dt (I ((k : Nat) : Int)))), (86, (dt (B true)))] [(1, (.var [(.dat (I f.a)), (.dat (I f.p)), (.dat (I f.m)), (.dat (I f.s)), (.dat (.sl 2 (f.t.map encTrain)))]))]) ((True ∧ True ∧ True ∧ True ∧ True ∧ (Ret Try.prog 49 [(I x25.c)] (B (decide (0 ≤ x25.c ∧ x25.c < 192)))) ∧ True ∧ True ∧ True ∧ True ∧ (((!(decide (0 ≤ x25.c ∧ x25.c < 192))) == false) = false) ∧ (((!(decide (0 ≤ x25.c ∧ x25.c < 192))) == false) = false) ∧ (((!(decide (0 ≤ x25.c ∧ x25.c < 192))) == false) = false) ∧ True ∧ ((!(decide (0 ≤ x25.c ∧ x25.c < 192))) = true) ∧ True ∧ True ∧ ((true == false) = false) ∧ ((true == false) = false) ∧ ((true == false) = false) ∧ True ∧ (true = true) ∧ True ∧ True ∧ ((true == false) = false) ∧ ((true == false) = false) ∧ ((true == false) = false) ∧ True ∧ True ∧ True ∧ True ∧ True ∧ True ∧ True ∧ True ∧ True ∧ True ∧ ((true == false) = false) ∧ True ∧ (true = true) ∧ True) ∧ True) (by kernel_rfl) (by kernel_rfl) (by kernel_rfl) ⟨⟨trivial, trivial, trivial, trivial, trivial, (ret_isClub _), trivial, trivial, trivial, trivial, (by rw [show (!(decide (0 ≤ x25.c ∧ x25.c < 192))) = true from h27]; rfl), (by rw [show (!(decide (0 ≤ x25.c ∧ x25.c < 192))) = true from h27]; rfl), (by rw [show (!(decide (0 ≤ x25.c ∧ x25.c < 192))) = true from h27]; rfl), trivial, h27, trivial, trivial, (by rw [show true = true from rfl]; rfl), (by rw [show true = true from rfl]; rfl), (by rw [show true = true from rfl]; rfl), trivial, rfl, trivial, trivial, (by rw [show true = true from rfl]; rfl), (by rw [show true = true from rfl]; rfl), (by rw [show true = true from rfl]; rfl), trivial, trivial, trivial, trivial, trivial, trivial, trivial, trivial, trivial, trivial, (by rw [show true = true from rfl]; rfl), trivial, rfl, trivial⟩, trivial⟩ ?_
                  refine T_cond true (by kernel_rfl) (fun _ => ?_) (fun h => absurd (h.symm.trans rfl) (by decide))
                  refine T_reg [] [2] [1] (mk 88 [(2, (dt (I 380)))] []) (True ∧ True ∧ True) (by kernel_rfl) ⟨trivial, trivial, trivial⟩ ?_
                  refine T_ret ?_
                  exact ret_here [(dt (I 380))] (by kernel_rfl) (.inl (congrArg I (by first | exact chk_bad (by unfold headOK; simp only [decide_eq_true_eq, decide_eq_false_iff_not] at *; omega) | exact chk_bad2 (trOK_stop iv (by assumption) (by first | (simp only [decide_eq_true_eq, decide_eq_false_iff_not] at *; omega) | omega | (simp only [decide_eq_true_eq, decide_eq_false_iff_not] at *; by_cases hk : k = 0 <;> first | omega | (have := ip hk; omega)))) | exact chk_ok (by unfold headOK; simp only [decide_eq_true_eq, decide_eq_false_iff_not] at *; omega) (trOK_end iv (by omega)) : 380 = (chk f))))
                · skip
                  have n30 : (decide (0 ≤ x25.c ∧ x25.c < 192)) = true := not_f h27
                  have g31 : (0 ≤ x25.c ∧ x25.c < 192) := of_decide_eq_true (n30)
                  rcases Bool.eq_false_or_eq_true (decide (x25.s < 1)) with h32 | h32
                  · skip
                    have g33 : x25.s < 1 := of_decide_eq_true (h32)
                    refine T_regD 30 [{}, {}, { d := some (B (decide (0 ≤ x25.c ∧ x25.c < 192))) }, {}, {}, {}, {}, {}, { d := some (B false) }, {}, { g := false }, { g := false }, { g := false }, { d := some (B true) }, {}, { g := false }, { g := false }, { g := false }, {}, {}, {}, {}, {}, {}, {}, {}, {}, {}, { g := false }, { d := some (B true) }] [1, 50, 51, 52, 86] [5] (mk 88 [(1, (.one (.ref 1 0))), (50, (dt (.sl 2 (f.t.map encTrain)))), (51, (dt (I ((f.t.length : Nat) : Int)))), (52, (dt (I ((k : Nat) : Int)))), (86, (dt (B true)))] [(1, (.var [(.dat (I f.a)), (.dat (I f.p)), (.dat (I f.m)), (.dat (I f.s)), (.dat (.sl 2 (f.t.map encTrain)))]))]) ((True ∧ True ∧ True ∧ True ∧ True ∧ (Ret Try.prog 49 [(I x25.c)] (B (decide (0 ≤ x25.c ∧ x25.c < 192)))) ∧ True ∧ True ∧ True ∧ True ∧ (((!(decide (0 ≤ x25.c ∧ x25.c < 192))) == false) = true) ∧ True ∧ (((!(decide (0 ≤ x25.c ∧ x25.c < 192))) == false) = true) ∧ True ∧ (((!(decide (0 ≤ x25.c ∧ x25.c < 192))) == false) = true) ∧ True ∧ True ∧ ((!(decide (0 ≤ x25.c ∧ x25.c < 192))) = false) ∧ True ∧ True ∧ (((decide (x25.s < 1)) == false) = false) ∧ (((decide (x25.s < 1)) == false) = false) ∧ (((decide (x25.s < 1)) == false) = false) ∧ True ∧ ((decide (x25.s < 1)) = true) ∧ True ∧ True ∧ ((true == false) = false) ∧ ((true == false) = false) ∧ ((true == false) = false) ∧ True ∧ True ∧ True ∧ True ∧ True ∧ True ∧ True ∧ True ∧ True ∧ True ∧ ((true == false) = false) ∧ True ∧ (true = true) ∧ True) ∧ True) (by kernel_rfl) (by kernel_rfl) (by kernel_rfl) ⟨⟨trivial, trivial, trivial, trivial, trivial, (ret_isClub _), trivial, trivial, trivial, trivial, (by rw [show (!(decide (0 ≤ x25.c ∧ x25.c < 192))) = false from h27]; rfl), trivial, (by rw [show (!(decide (0 ≤ x25.c ∧ x25.c < 192))) = false from h27]; rfl), trivial, (by rw [show (!(decide (0 ≤ x25.c ∧ x25.c < 192))) = false from h27]; rfl), trivial, trivial, h27, trivial, trivial, (by rw [show (decide (x25.s < 1)) = true from h32]; rfl), (by rw [show (decide (x25.s < 1)) = true from h32]; rfl), (by rw [show (decide (x25.s < 1)) = true from h32]; rfl), trivial, h32, trivial, trivial, (by rw [show true = true from rfl]; rfl), (by rw [show true = true from rfl]; rfl), (by rw [show true = true from rfl]; rfl), trivial, trivial, trivial, trivial, trivial, trivial, trivial, trivial, trivial, trivial, (by rw [show true = true from rfl]; rfl), trivial, rfl, trivial⟩, trivial⟩ ?_
                    refine T_cond true (by kernel_rfl) (fun _ => ?_) (fun h => absurd (h.symm.trans rfl) (by decide))
                    refine T_reg [] [2] [1] (mk 88 [(2, (dt (I 380)))] []) (True ∧ True ∧ True) (by kernel_rfl) ⟨trivial, trivial, trivial⟩ ?_
                    refine T_ret ?_
                    exact ret_here [(dt (I 380))] (by kernel_rfl) (.inl (congrArg I (by first | exact chk_bad (by unfold headOK; simp only [decide_eq_true_eq, decide_eq_false_iff_not] at *; omega) | exact chk_bad2 (trOK_stop iv (by assumption) (by first | (simp only [decide_eq_true_eq, decide_eq_false_iff_not] at *; omega) | omega | (simp only [decide_eq_true_eq, decide_eq_false_iff_not] at *; by_cases hk : k = 0 <;> first | omega | (have := ip hk; omega)))) | exact chk_ok (by unfold headOK; simp only [decide_eq_true_eq, decide_eq_false_iff_not] at *; omega) (trOK_end iv (by omega)) : 380 = (chk f))))
                  · skip
                    have g34 : ¬ (x25.s < 1) := of_decide_eq_false (h32)
                    rcases Bool.eq_false_or_eq_true (decide (x25.s > 12)) with h35 | h35
                    · skip
                      have g36 : x25.s > 12 := of_decide_eq_true (h35)
                      refine T_regD 30 [{}, {}, { d := some (B (decide (0 ≤ x25.c ∧ x25.c < 192))) }, {}, {}, {}, {}, {}, { d := some (B false) }, {}, {}, {}, {}, { d := some (B false) }, {}, { g := false }, { g := false }, { g := false }, {}, {}, {}, {}, {}, {}, {}, {}, {}, {}, { g := false }, { d := some (B true) }] [1, 50, 51, 52, 86] [5] (mk 88 [(1, (.one (.ref 1 0))), (50, (dt (.sl 2 (f.t.map encTrain)))), (51, (dt (I ((f.t.length : Nat) : Int)))), (52, (dt (I ((k : Nat) : Int)))), (86, (dt (B true)))] [(1, (.var [(.dat (I f.a)), (.dat (I f.p)), (.dat (I f.m)), (.dat (I f.s)), (.dat (.sl 2 (f.t.map encTrain)))]))]) ((True ∧ True ∧ True ∧ True ∧ True ∧ (Ret Try.prog 49 [(I x25.c)] (B (decide (0 ≤ x25.c ∧ x25.c < 192)))) ∧ True ∧ True ∧ True ∧ True ∧ (((!(decide (0 ≤ x25.c ∧ x25.c < 192))) == false) = true) ∧ True ∧ (((!(decide (0 ≤ x25.c ∧ x25.c < 192))) == false) = true) ∧ True ∧ (((!(decide (0 ≤ x25.c ∧ x25.c < 192))) == false) = true) ∧ True ∧ True ∧ ((!(decide (0 ≤ x25.c ∧ x25.c < 192))) = false) ∧ True ∧ True ∧ (((decide (x25.s < 1)) == false) = true) ∧ True ∧ (((decide (x25.s < 1)) == false) = true) ∧ True ∧ (((decide (x25.s < 1)) == false) = true) ∧ True ∧ True ∧ ((decide (x25.s < 1)) = false) ∧ True ∧ True ∧ (((decide (x25.s > 12)) == false) = false) ∧ (((decide (x25.s > 12)) == false) = false) ∧ (((decide (x25.s > 12)) == false) = false) ∧ True ∧ True ∧ True ∧ True ∧ True ∧ True ∧ True ∧ True ∧ True ∧ True ∧ (((decide (x25.s > 12)) == false) = false) ∧ True ∧ ((decide (x25.s > 12)) = true) ∧ True) ∧ True) (by kernel_rfl) (by kernel_rfl) (by kernel_rfl) ⟨⟨trivial, trivial, trivial, trivial, trivial, (ret_isClub _), trivial, trivial, trivial, trivial, (by rw [show (!(decide (0 ≤ x25.c ∧ x25.c < 192))) = false from h27]; rfl), trivial, (by rw [show (!(decide (0 ≤ x25.c ∧ x25.c < 192))) = false from h27]; rfl), trivial, (by rw [show (!(decide (0 ≤ x25.c ∧ x25.c < 192))) = false from h27]; rfl), trivial, trivial, h27, trivial, trivial, (by rw [show (decide (x25.s < 1)) = false from h32]; rfl), trivial, (by rw [show (decide (x25.s < 1)) = false from h32]; rfl), trivial, (by rw [show (decide (x25.s < 1)) = false from h32]; rfl), trivial, trivial, h32, trivial, trivial, (by rw [show (decide (x25.s > 12)) = true from h35]; rfl), (by rw [show (decide (x25.s > 12)) = true from h35]; rfl), (by rw [show (decide (x25.s > 12)) = true from h35]; rfl), trivial, trivial, trivial, trivial, trivial, trivial, trivial, trivial, trivial, trivial, (by rw [show (decide (x25.s > 12)) = true from h35]; rfl), trivial, h35, trivial⟩, trivial⟩ ?_
                      refine T_cond true (by kernel_rfl) (fun _ => ?_) (fun h => absurd (h.symm.trans rfl) (by decide))
                      refine T_reg [] [2] [1] (mk 88 [(2, (dt (I 380)))] []) (True ∧ True ∧ True) (by kernel_rfl) ⟨trivial, trivial, trivial⟩ ?_
                      refine T_ret ?_
                      exact ret_here [(dt (I 380))] (by kernel_rfl) (.inl (congrArg I (by first | exact chk_bad (by unfold headOK; simp only [decide_eq_true_eq, decide_eq_false_iff_not] at *; omega) | exact chk_bad2 (trOK_stop iv (by assumption) (by first | (simp only [decide_eq_true_eq, decide_eq_false_iff_not] at *; omega) | omega | (simp only [decide_eq_true_eq, decide_eq_false_iff_not] at *; by_cases hk : k = 0 <;> first | omega | (have := ip hk; omega)))) | exact chk_ok (by unfold headOK; simp only [decide_eq_true_eq, decide_eq_false_iff_not] at *; omega) (trOK_end iv (by omega)) : 380 = (chk f))))
                    · skip
                      have g37 : ¬ (x25.s > 12) := of_decide_eq_false (h35)
                      rcases Bool.eq_false_or_eq_true (decide (((k : Nat) : Int) > 0)) with h38 | h38
                      · skip
                        have g39 : ((k : Nat) : Int) > 0 := of_decide_eq_true (h38)
                        refine T_regD 30 [{}, {}, { d := some (B (decide (0 ≤ x25.c ∧ x25.c < 192))) }, {}, {}, {}, {}, {}, { d := some (B false) }, {}, {}, {}, {}, { d := some (B false) }, {}, {}, {}, {}, {}, {}, {}, {}, {}, { d := some (I (((k : Nat) : Int) - 1)) }, { d := some (.agg [(I e.c), (I e.s)]) }, {}, {}, {}, { d := some (B true) }, { d := some (B false) }] [1, 50, 51, 52, 86] [5] (mk 88 [(1, (.one (.ref 1 0))), (50, (dt (.sl 2 (f.t.map encTrain)))), (51, (dt (I ((f.t.length : Nat) : Int)))), (52, (dt (I ((k : Nat) : Int)))), (86, (dt (B (decide (x25.c ≤ e.c)))))] [(1, (.var [(.dat (I f.a)), (.dat (I f.p)), (.dat (I f.m)), (.dat (I f.s)), (.dat (.sl 2 (f.t.map encTrain)))]))]) ((True ∧ True ∧ True ∧ True ∧ True ∧ (Ret Try.prog 49 [(I x25.c)] (B (decide (0 ≤ x25.c ∧ x25.c < 192)))) ∧ True ∧ True ∧ True ∧ True ∧ (((!(decide (0 ≤ x25.c ∧ x25.c < 192))) == false) = true) ∧ True ∧ (((!(decide (0 ≤ x25.c ∧ x25.c < 192))) == false) = true) ∧ True ∧ (((!(decide (0 ≤ x25.c ∧ x25.c < 192))) == false) = true) ∧ True ∧ True ∧ ((!(decide (0 ≤ x25.c ∧ x25.c < 192))) = false) ∧ True ∧ True ∧ (((decide (x25.s < 1)) == false) = true) ∧ True ∧ (((decide (x25.s < 1)) == false) = true) ∧ True ∧ (((decide (x25.s < 1)) == false) = true) ∧ True ∧ True ∧ ((decide (x25.s < 1)) = false) ∧ True ∧ True ∧ (((decide (x25.s > 12)) == false) = true) ∧ True ∧ (((decide (x25.s > 12)) == false) = true) ∧ True ∧ (((decide (x25.s > 12)) == false) = true) ∧ True ∧ (((decide (((k : Nat) : Int) > 0)) == true) = true) ∧ True ∧ (((decide (((k : Nat) : Int) > 0)) == true) = true) ∧ True ∧ (((decide (((k : Nat) : Int) > 0)) == true) = true) ∧ True ∧ (((decide (((k : Nat) : Int) > 0)) == true) = true) ∧ True ∧ (((decide (((k : Nat) : Int) > 0)) == true) = true) ∧ True ∧ (((decide (((k : Nat) : Int) > 0)) == true) = true) ∧ (IntKind.i64.wrap (((k : Nat) : Int) - 1) = (((k : Nat) : Int) - 1)) ∧ (((decide (((k : Nat) : Int) > 0)) == true) = true) ∧ (0 ≤ (((k : Nat) : Int) - 1) ∧ (f.t.map encTrain)[((((k : Nat) : Int) - 1)).toNat]? = some (.agg [(I e.c), (I e.s)])) ∧ (((decide (((k : Nat) : Int) > 0)) == true) = true) ∧ True ∧ (((decide (((k : Nat) : Int) > 0)) == true) = true) ∧ True ∧ (((decide (((k : Nat) : Int) > 0)) == true) = true) ∧ True ∧ (((decide (x25.s > 12)) == false) = true) ∧ ((decide (((k : Nat) : Int) > 0)) = true) ∧ True ∧ ((decide (x25.s > 12)) = false) ∧ True) ∧ True) (by kernel_rfl) (by kernel_rfl) (by kernel_rfl) ⟨⟨trivial, trivial, trivial, trivial, trivial, (ret_isClub _), trivial, trivial, trivial, trivial, (by rw [show (!(decide (0 ≤ x25.c ∧ x25.c < 192))) = false from h27]; rfl), trivial, (by rw [show (!(decide (0 ≤ x25.c ∧ x25.c < 192))) = false from h27]; rfl), trivial, (by rw [show (!(decide (0 ≤ x25.c ∧ x25.c < 192))) = false from h27]; rfl), trivial, trivial, h27, trivial, trivial, (by rw [show (decide (x25.s < 1)) = false from h32]; rfl), trivial, (by rw [show (decide (x25.s < 1)) = false from h32]; rfl), trivial, (by rw [show (decide (x25.s < 1)) = false from h32]; rfl), trivial, trivial, h32, trivial, trivial, (by rw [show (decide (x25.s > 12)) = false from h35]; rfl), trivial, (by rw [show (decide (x25.s > 12)) = false from h35]; rfl), trivial, (by rw [show (decide (x25.s > 12)) = false from h35]; rfl), trivial, (by rw [show (decide (((k : Nat) : Int) > 0)) = true from h38]; rfl), trivial, (by rw [show (decide (((k : Nat) : Int) > 0)) = true from h38]; rfl), trivial, (by rw [show (decide (((k : Nat) : Int) > 0)) = true from h38]; rfl), trivial, (by rw [show (decide (((k : Nat) : Int) > 0)) = true from h38]; rfl), trivial, (by rw [show (decide (((k : Nat) : Int) > 0)) = true from h38]; rfl), trivial, (by rw [show (decide (((k : Nat) : Int) > 0)) = true from h38]; rfl), (i64_wrap (by omega) (by omega)), (by rw [show (decide (((k : Nat) : Int) > 0)) = true from h38]; rfl), ⟨by omega, by rw [show ((((k : Nat) : Int) - 1)).toNat = k - 1 from by omega]; rw [List.getElem?_map, (ip2 (by omega))]; rfl⟩, (by rw [show (decide (((k : Nat) : Int) > 0)) = true from h38]; rfl), trivial, (by rw [show (decide (((k : Nat) : Int) > 0)) = true from h38]; rfl), trivial, (by rw [show (decide (((k : Nat) : Int) > 0)) = true from h38]; rfl), trivial, (by rw [show (decide (x25.s > 12)) = false from h35]; rfl), h38, trivial, h35, trivial⟩, trivial⟩ ?_
                        refine T_cond (decide (x25.c ≤ e.c)) (by kernel_rfl) (fun h40 => ?_) (fun h40 => ?_)
                        · skip
                          have g41 : x25.c ≤ e.c := of_decide_eq_true (h40)
                          refine T_reg [] [2] [1] (mk 88 [(2, (dt (I 380)))] []) (True ∧ True ∧ True) (by kernel_rfl) ⟨trivial, trivial, trivial⟩ ?_
                          refine T_ret ?_
                          exact ret_here [(dt (I 380))] (by kernel_rfl) (.inl (congrArg I (by first | exact chk_bad (by unfold headOK; simp only [decide_eq_true_eq, decide_eq_false_iff_not] at *; omega) | exact chk_bad2 (trOK_stop iv (by assumption) (by first | (simp only [decide_eq_true_eq, decide_eq_false_iff_not] at *; omega) | omega | (simp only [decide_eq_true_eq, decide_eq_false_iff_not] at *; by_cases hk : k = 0 <;> first | omega | (have := ip hk; omega)))) | exact chk_ok (by unfold headOK; simp only [decide_eq_true_eq, decide_eq_false_iff_not] at *; omega) (trOK_end iv (by omega)) : 380 = (chk f))))
                        · skip
                          have g42 : ¬ (x25.c ≤ e.c) := of_decide_eq_false (h40)
                          refine T_skip ?_
                          refine T_regE [{ d := some (I ((k + 1 : Nat) : Int)) }] (mk 88 [(1, (.one (.ref 1 0))), (50, (dt (.sl 2 (f.t.map encTrain)))), (51, (dt (I ((f.t.length : Nat) : Int)))), (52, (dt (I ((k + 1 : Nat) : Int)))), (86, (dt (B (decide (x25.c ≤ e.c))))), (87, (dt (I ((k + 1 : Nat) : Int))))] [(1, (.var [(.dat (I f.a)), (.dat (I f.p)), (.dat (I f.m)), (.dat (I f.s)), (.dat (.sl 2 (f.t.map encTrain)))]))]) (True ∧ (IntKind.i64.wrap (((k : Nat) : Int) + 1) = ((k + 1 : Nat) : Int)) ∧ True ∧ True ∧ True) (by kernel_rfl) ⟨trivial, (by rw [i64_wrap (by omega) (by omega)]; omega), trivial, trivial, trivial⟩ ?_
                          refine Exists.intro (k + 1, x25) ⟨⟨by omega, trOK_step iv hx26 (by first | (simp only [decide_eq_true_eq, decide_eq_false_iff_not] at *; omega) | omega | (simp only [decide_eq_true_eq, decide_eq_false_iff_not] at *; by_cases hk : k = 0 <;> first | omega | (have := ip hk; omega))), fun h => by omega, fun _ => by simpa using hx26, trivial⟩, by first | omega | (dsimp only; omega), le_turn [] [1, 50, 51, 52] [] (by kernel_rfl)⟩
                      · skip
                        have g43 : ¬ (((k : Nat) : Int) > 0) := of_decide_eq_false (h38)
                        refine T_regD 30 [{}, {}, { d := some (B (decide (0 ≤ x25.c ∧ x25.c < 192))) }, {}, {}, {}, {}, {}, { d := some (B false) }, {}, {}, {}, {}, { d := some (B false) }, {}, {}, {}, {}, { g := false }, { g := false }, { g := false }, { g := false }, { g := false }, { g := false }, { g := false }, { g := false }, { g := false }, { g := false }, { d := some (B false) }, { d := some (B false) }] [1, 50, 51, 52, 86] [5] (mk 88 [(1, (.one (.ref 1 0))), (50, (dt (.sl 2 (f.t.map encTrain)))), (51, (dt (I ((f.t.length : Nat) : Int)))), (52, (dt (I ((k : Nat) : Int)))), (86, (dt (B false)))] [(1, (.var [(.dat (I f.a)), (.dat (I f.p)), (.dat (I f.m)), (.dat (I f.s)), (.dat (.sl 2 (f.t.map encTrain)))]))]) ((True ∧ True ∧ True ∧ True ∧ True ∧ (Ret Try.prog 49 [(I x25.c)] (B (decide (0 ≤ x25.c ∧ x25.c < 192)))) ∧ True ∧ True ∧ True ∧ True ∧ (((!(decide (0 ≤ x25.c ∧ x25.c < 192))) == false) = true) ∧ True ∧ (((!(decide (0 ≤ x25.c ∧ x25.c < 192))) == false) = true) ∧ True ∧ (((!(decide (0 ≤ x25.c ∧ x25.c < 192))) == false) = true) ∧ True ∧ True ∧ ((!(decide (0 ≤ x25.c ∧ x25.c < 192))) = false) ∧ True ∧ True ∧ (((decide (x25.s < 1)) == false) = true) ∧ True ∧ (((decide (x25.s < 1)) == false) = true) ∧ True ∧ (((decide (x25.s < 1)) == false) = true) ∧ True ∧ True ∧ ((decide (x25.s < 1)) = false) ∧ True ∧ True ∧ (((decide (x25.s > 12)) == false) = true) ∧ True ∧ (((decide (x25.s > 12)) == false) = true) ∧ True ∧ (((decide (x25.s > 12)) == false) = true) ∧ True ∧ (((decide (((k : Nat) : Int) > 0)) == true) = false) ∧ (((decide (((k : Nat) : Int) > 0)) == true) = false) ∧ (((decide (((k : Nat) : Int) > 0)) == true) = false) ∧ (((decide (((k : Nat) : Int) > 0)) == true) = false) ∧ (((decide (((k : Nat) : Int) > 0)) == true) = false) ∧ (((decide (((k : Nat) : Int) > 0)) == true) = false) ∧ (((decide (((k : Nat) : Int) > 0)) == true) = false) ∧ (((decide (((k : Nat) : Int) > 0)) == true) = false) ∧ (((decide (((k : Nat) : Int) > 0)) == true) = false) ∧ (((decide (((k : Nat) : Int) > 0)) == true) = false) ∧ (((decide (x25.s > 12)) == false) = true) ∧ ((decide (((k : Nat) : Int) > 0)) = false) ∧ True ∧ ((decide (x25.s > 12)) = false) ∧ True) ∧ True) (by kernel_rfl) (by kernel_rfl) (by kernel_rfl) ⟨⟨trivial, trivial, trivial, trivial, trivial, (ret_isClub _), trivial, trivial, trivial, trivial, (by rw [show (!(decide (0 ≤ x25.c ∧ x25.c < 192))) = false from h27]; rfl), trivial, (by rw [show (!(decide (0 ≤ x25.c ∧ x25.c < 192))) = false from h27]; rfl), trivial, (by rw [show (!(decide (0 ≤ x25.c ∧ x25.c < 192))) = false from h27]; rfl), trivial, trivial, h27, trivial, trivial, (by rw [show (decide (x25.s < 1)) = false from h32]; rfl), trivial, (by rw [show (decide (x25.s < 1)) = false from h32]; rfl), trivial, (by rw [show (decide (x25.s < 1)) = false from h32]; rfl), trivial, trivial, h32, trivial, trivial, (by rw [show (decide (x25.s > 12)) = false from h35]; rfl), trivial, (by rw [show (decide (x25.s > 12)) = false from h35]; rfl), trivial, (by rw [show (decide (x25.s > 12)) = false from h35]; rfl), trivial, (by rw [show (decide (((k : Nat) : Int) > 0)) = false from h38]; rfl), (by rw [show (decide (((k : Nat) : Int) > 0)) = false from h38]; rfl), (by rw [show (decide (((k : Nat) : Int) > 0)) = false from h38]; rfl), (by rw [show (decide (((k : Nat) : Int) > 0)) = false from h38]; rfl), (by rw [show (decide (((k : Nat) : Int) > 0)) = false from h38]; rfl), (by rw [show (decide (((k : Nat) : Int) > 0)) = false from h38]; rfl), (by rw [show (decide (((k : Nat) : Int) > 0)) = false from h38]; rfl), (by rw [show (decide (((k : Nat) : Int) > 0)) = false from h38]; rfl), (by rw [show (decide (((k : Nat) : Int) > 0)) = false from h38]; rfl), (by rw [show (decide (((k : Nat) : Int) > 0)) = false from h38]; rfl), (by rw [show (decide (x25.s > 12)) = false from h35]; rfl), h38, trivial, h35, trivial⟩, trivial⟩ ?_
                        refine T_cond false (by kernel_rfl) (fun h => absurd (h.symm.trans rfl) (by decide)) (fun _ => ?_)
                        refine T_skip ?_
                        refine T_regE [{ d := some (I ((k + 1 : Nat) : Int)) }] (mk 88 [(1, (.one (.ref 1 0))), (50, (dt (.sl 2 (f.t.map encTrain)))), (51, (dt (I ((f.t.length : Nat) : Int)))), (52, (dt (I ((k + 1 : Nat) : Int)))), (86, (dt (B false))), (87, (dt (I ((k + 1 : Nat) : Int))))] [(1, (.var [(.dat (I f.a)), (.dat (I f.p)), (.dat (I f.m)), (.dat (I f.s)), (.dat (.sl 2 (f.t.map encTrain)))]))]) (True ∧ (IntKind.i64.wrap (((k : Nat) : Int) + 1) = ((k + 1 : Nat) : Int)) ∧ True ∧ True ∧ True) (by kernel_rfl) ⟨trivial, (by rw [i64_wrap (by omega) (by omega)]; omega), trivial, trivial, trivial⟩ ?_
                        refine Exists.intro (k + 1, x25) ⟨⟨by omega, trOK_step iv hx26 (by first | (simp only [decide_eq_true_eq, decide_eq_false_iff_not] at *; omega) | omega | (simp only [decide_eq_true_eq, decide_eq_false_iff_not] at *; by_cases hk : k = 0 <;> first | omega | (have := ip hk; omega))), fun h => by omega, fun _ => by simpa using hx26, trivial⟩, by first | omega | (dsimp only; omega), le_turn [] [1, 50, 51, 52] [] (by kernel_rfl)⟩
              · skip
                have g44 : ¬ (((k : Nat) : Int) < ((f.t.length : Nat) : Int)) := of_decide_eq_false (h22)
                refine T_exit ?_
                refine T_reg [] [2] [1] (mk 88 [(2, (dt (I 0)))] []) (True ∧ True ∧ True) (by kernel_rfl) ⟨trivial, trivial, trivial⟩ ?_
                refine T_ret ?_
                exact ret_here [(dt (I 0))] (by kernel_rfl) (.inl (congrArg I (by first | exact chk_bad (by unfold headOK; simp only [decide_eq_true_eq, decide_eq_false_iff_not] at *; omega) | exact chk_bad2 (trOK_stop iv (by assumption) (by first | (simp only [decide_eq_true_eq, decide_eq_false_iff_not] at *; omega) | omega | (simp only [decide_eq_true_eq, decide_eq_false_iff_not] at *; by_cases hk : k = 0 <;> first | omega | (have := ip hk; omega)))) | exact chk_ok (by unfold headOK; simp only [decide_eq_true_eq, decide_eq_false_iff_not] at *; omega) (trOK_end iv (by omega)) : 0 = (chk f))))
  · skip
    have g45 : ¬ (0 ≤ f.m ∧ f.m < 192) := of_decide_eq_false (h1)
    rcases Bool.eq_false_or_eq_true (f.m == (-1)) with h46 | h46
    · skip
      have g47 : f.m = (-1) := eq_of_beq (h46)
      refine T_reg [{}, {}, { d := some (B (decide (0 ≤ f.m ∧ f.m < 192))) }, {}, {}, {}, {}, {}, {}, {}, {}, { d := some (B true) }, { d := some (B false) }] [1, 3] [] (mk 88 [(1, (.one (.ref 1 0))), (3, (dt (B (f.s == 0))))] [(1, (.var [(.dat (I f.a)), (.dat (I f.p)), (.dat (I f.m)), (.dat (I f.s)), (.dat (.sl 2 (f.t.map encTrain)))]))]) (True ∧ True ∧ True ∧ True ∧ True ∧ (Ret Try.prog 49 [(I f.m)] (B (decide (0 ≤ f.m ∧ f.m < 192)))) ∧ True ∧ True ∧ (((decide (0 ≤ f.m ∧ f.m < 192)) == false) = true) ∧ True ∧ (((decide (0 ≤ f.m ∧ f.m < 192)) == false) = true) ∧ True ∧ (((decide (0 ≤ f.m ∧ f.m < 192)) == false) = true) ∧ True ∧ (((decide (0 ≤ f.m ∧ f.m < 192)) == false) = true) ∧ True ∧ (((f.m == (-1)) == true) = true) ∧ True ∧ (((f.m == (-1)) == true) = true) ∧ True ∧ (((f.m == (-1)) == true) = true) ∧ True ∧ (((decide (0 ≤ f.m ∧ f.m < 192)) == false) = true) ∧ ((f.m == (-1)) = true) ∧ True ∧ ((decide (0 ≤ f.m ∧ f.m < 192)) = false) ∧ True ∧ True ∧ True) (by kernel_rfl) ⟨trivial, trivial, trivial, trivial, trivial, (ret_isClub _), trivial, trivial, (by rw [show (decide (0 ≤ f.m ∧ f.m < 192)) = false from h1]; rfl), trivial, (by rw [show (decide (0 ≤ f.m ∧ f.m < 192)) = false from h1]; rfl), trivial, (by rw [show (decide (0 ≤ f.m ∧ f.m < 192)) = false from h1]; rfl), trivial, (by rw [show (decide (0 ≤ f.m ∧ f.m < 192)) = false from h1]; rfl), trivial, (by rw [show (f.m == (-1)) = true from h46]; rfl), trivial, (by rw [show (f.m == (-1)) = true from h46]; rfl), trivial, (by rw [show (f.m == (-1)) = true from h46]; rfl), trivial, (by rw [show (decide (0 ≤ f.m ∧ f.m < 192)) = false from h1]; rfl), h46, trivial, h1, trivial, trivial, trivial⟩ ?_
      refine T_seq ?_
      rcases Bool.eq_false_or_eq_true (!(decide (0 ≤ f.a ∧ f.a ≤ 1125899906842624))) with h48 | h48
      · skip
        have n49 : (decide (0 ≤ f.a ∧ f.a ≤ 1125899906842624)) = false := not_t h48
        have g50 : ¬ (0 ≤ f.a ∧ f.a ≤ 1125899906842624) := of_decide_eq_false (n49)
        refine T_reg [{}, {}, { d := some (B (decide (0 ≤ f.a ∧ f.a ≤ 1125899906842624))) }, {}, {}, { g := false }, { g := false }, { g := false }, { g := false }, { d := some (B true) }, {}, { g := false }, { g := false }, { d := some (B true) }, {}, { g := false }, { g := false }, { g := false }, { d := some (B true) }, {}, { g := false }, { g := false }, { g := false }, { d := some (B true) }, {}, { g := false }, { g := false }, { g := false }, { g := false }, { d := some (B true) }] [1, 48] [] (mk 88 [(1, (.one (.ref 1 0))), (48, (dt (B true)))] [(1, (.var [(.dat (I f.a)), (.dat (I f.p)), (.dat (I f.m)), (.dat (I f.s)), (.dat (.sl 2 (f.t.map encTrain)))]))]) (True ∧ True ∧ True ∧ True ∧ True ∧ (Ret Try.prog 74 [(I f.a)] (B (decide (0 ≤ f.a ∧ f.a ≤ 1125899906842624)))) ∧ True ∧ True ∧ True ∧ True ∧ (((!(decide (0 ≤ f.a ∧ f.a ≤ 1125899906842624))) == false) = false) ∧ (((!(decide (0 ≤ f.a ∧ f.a ≤ 1125899906842624))) == false) = false) ∧ (((!(decide (0 ≤ f.a ∧ f.a ≤ 1125899906842624))) == false) = false) ∧ (((!(decide (0 ≤ f.a ∧ f.a ≤ 1125899906842624))) == false) = false) ∧ True ∧ ((!(decide (0 ≤ f.a ∧ f.a ≤ 1125899906842624))) = true) ∧ True ∧ True ∧ ((true == false) = false) ∧ ((true == false) = false) ∧ True ∧ (true = true) ∧ True ∧ True ∧ ((true == false) = false) ∧ ((true == false) = false) ∧ ((true == false) = false) ∧ True ∧ (true = true) ∧ True ∧ True ∧ ((true == false) = false) ∧ ((true == false) = false) ∧ ((true == false) = false) ∧ True ∧ (true = true) ∧ True ∧ True ∧ ((true == false) = false) ∧ ((true == false) = false) ∧ ((true == false) = false) ∧ ((true == false) = false) ∧ True ∧ (true = true) ∧ True) (by kernel_rfl) ⟨trivial, trivial, trivial, trivial, trivial, (ret_isAmt _), trivial, trivial, trivial, trivial, (by rw [show (!(decide (0 ≤ f.a ∧ f.a ≤ 1125899906842624))) = true from h48]; rfl), (by rw [show (!(decide (0 ≤ f.a ∧ f.a ≤ 1125899906842624))) = true from h48]; rfl), (by rw [show (!(decide (0 ≤ f.a ∧ f.a ≤ 1125899906842624))) = true from h48]; rfl), (by rw [show (!(decide (0 ≤ f.a ∧ f.a ≤ 1125899906842624))) = true from h48]; rfl), trivial, h48, trivial, trivial, (by rw [show true = true from rfl]; rfl), (by rw [show true = true from rfl]; rfl), trivial, rfl, trivial, trivial, (by rw [show true = true from rfl]; rfl), (by rw [show true = true from rfl]; rfl), (by rw [show true = true from rfl]; rfl), trivial, rfl, trivial, trivial, (by rw [show true = true from rfl]; rfl), (by rw [show true = true from rfl]; rfl), (by rw [show true = true from rfl]; rfl), trivial, rfl, trivial, trivial, (by rw [show true = true from rfl]; rfl), (by rw [show true = true from rfl]; rfl), (by rw [show true = true from rfl]; rfl), (by rw [show true = true from rfl]; rfl), trivial, rfl, trivial⟩ ?_
        refine T_cond true (by kernel_rfl) (fun _ => ?_) (fun h => absurd (h.symm.trans rfl) (by decide))
        refine T_reg [] [2] [1] (mk 88 [(2, (dt (I 380)))] []) (True ∧ True ∧ True) (by kernel_rfl) ⟨trivial, trivial, trivial⟩ ?_
        refine T_ret ?_
        exact ret_here [(dt (I 380))] (by kernel_rfl) (.inl (congrArg I (by first | exact chk_bad (by unfold headOK; simp only [decide_eq_true_eq, decide_eq_false_iff_not] at *; omega) | exact chk_bad2 (trOK_stop iv (by assumption) (by first | (simp only [decide_eq_true_eq, decide_eq_false_iff_not] at *; omega) | omega | (simp only [decide_eq_true_eq, decide_eq_false_iff_not] at *; by_cases hk : k = 0 <;> first | omega | (have := ip hk; omega)))) | exact chk_ok (by unfold headOK; simp only [decide_eq_true_eq, decide_eq_false_iff_not] at *; omega) (trOK_end iv (by omega)) : 380 = (chk f))))
      · skip
        have n51 : (decide (0 ≤ f.a ∧ f.a ≤ 1125899906842624)) = true := not_f h48
        have g52 : (0 ≤ f.a ∧ f.a ≤ 1125899906842624) := of_decide_eq_true (n51)
        rcases Bool.eq_false_or_eq_true (!(decide (0 ≤ f.p ∧ f.p ≤ 1125899906842624))) with h53 | h53
        · skip
          have n54 : (decide (0 ≤ f.p ∧ f.p ≤ 1125899906842624)) = false := not_t h53
          have g55 : ¬ (0 ≤ f.p ∧ f.p ≤ 1125899906842624) := of_decide_eq_false (n54)
          refine T_reg [{}, {}, { d := some (B (decide (0 ≤ f.a ∧ f.a ≤ 1125899906842624))) }, {}, {}, {}, {}, { d := some (B (decide (0 ≤ f.p ∧ f.p ≤ 1125899906842624))) }, {}, { d := some (B false) }, {}, { g := false }, { g := false }, { d := some (B true) }, {}, { g := false }, { g := false }, { g := false }, { d := some (B true) }, {}, { g := false }, { g := false }, { g := false }, { d := some (B true) }, {}, { g := false }, { g := false }, { g := false }, { g := false }, { d := some (B true) }] [1, 48] [] (mk 88 [(1, (.one (.ref 1 0))), (48, (dt (B true)))] [(1, (.var [(.dat (I f.a)), (.dat (I f.p)), (.dat (I f.m)), (.dat (I f.s)), (.dat (.sl 2 (f.t.map encTrain)))]))]) (True ∧ True ∧ True ∧ True ∧ True ∧ (Ret Try.prog 74 [(I f.a)] (B (decide (0 ≤ f.a ∧ f.a ≤ 1125899906842624)))) ∧ True ∧ True ∧ True ∧ True ∧ (((!(decide (0 ≤ f.a ∧ f.a ≤ 1125899906842624))) == false) = true) ∧ True ∧ (((!(decide (0 ≤ f.a ∧ f.a ≤ 1125899906842624))) == false) = true) ∧ True ∧ (((!(decide (0 ≤ f.a ∧ f.a ≤ 1125899906842624))) == false) = true) ∧ (Ret Try.prog 74 [(I f.p)] (B (decide (0 ≤ f.p ∧ f.p ≤ 1125899906842624)))) ∧ (((!(decide (0 ≤ f.a ∧ f.a ≤ 1125899906842624))) == false) = true) ∧ True ∧ True ∧ ((!(decide (0 ≤ f.a ∧ f.a ≤ 1125899906842624))) = false) ∧ True ∧ True ∧ (((!(decide (0 ≤ f.p ∧ f.p ≤ 1125899906842624))) == false) = false) ∧ (((!(decide (0 ≤ f.p ∧ f.p ≤ 1125899906842624))) == false) = false) ∧ True ∧ ((!(decide (0 ≤ f.p ∧ f.p ≤ 1125899906842624))) = true) ∧ True ∧ True ∧ ((true == false) = false) ∧ ((true == false) = false) ∧ ((true == false) = false) ∧ True ∧ (true = true) ∧ True ∧ True ∧ ((true == false) = false) ∧ ((true == false) = false) ∧ ((true == false) = false) ∧ True ∧ (true = true) ∧ True ∧ True ∧ ((true == false) = false) ∧ ((true == false) = false) ∧ ((true == false) = false) ∧ ((true == false) = false) ∧ True ∧ (true = true) ∧ True) (by kernel_rfl) ⟨trivial, trivial, trivial, trivial, trivial, (ret_isAmt _), trivial, trivial, trivial, trivial, (by rw [show (!(decide (0 ≤ f.a ∧ f.a ≤ 1125899906842624))) = false from h48]; rfl), trivial, (by rw [show (!(decide (0 ≤ f.a ∧ f.a ≤ 1125899906842624))) = false from h48]; rfl), trivial, (by rw [show (!(decide (0 ≤ f.a ∧ f.a ≤ 1125899906842624))) = false from h48]; rfl), (ret_isAmt _), (by rw [show (!(decide (0 ≤ f.a ∧ f.a ≤ 1125899906842624))) = false from h48]; rfl), trivial, trivial, h48, trivial, trivial, (by rw [show (!(decide (0 ≤ f.p ∧ f.p ≤ 1125899906842624))) = true from h53]; rfl), (by rw [show (!(decide (0 ≤ f.p ∧ f.p ≤ 1125899906842624))) = true from h53]; rfl), trivial, h53, trivial, trivial, (by rw [show true = true from rfl]; rfl), (by rw [show true = true from rfl]; rfl), (by rw [show true = true from rfl]; rfl), trivial, rfl, trivial, trivial, (by rw [show true = true from rfl]; rfl), (by rw [show true = true from rfl]; rfl), (by rw [show true = true from rfl]; rfl), trivial, rfl, trivial, trivial, (by rw [show true = true from rfl]; rfl), (by rw [show true = true from rfl]; rfl), (by rw [show true = true from rfl]; rfl), (by rw [show true = true from rfl]; rfl), trivial, rfl, trivial⟩ ?_
          refine T_cond true (by kernel_rfl) (fun _ => ?_) (fun h => absurd (h.symm.trans rfl) (by decide))
          refine T_reg [] [2] [1] (mk 88 [(2, (dt (I 380)))] []) (True ∧ True ∧ True) (by kernel_rfl) ⟨trivial, trivial, trivial⟩ ?_
          refine T_ret ?_
          exact ret_here [(dt (I 380))] (by kernel_rfl) (.inl (congrArg I (by first | exact chk_bad (by unfold headOK; simp only [decide_eq_true_eq, decide_eq_false_iff_not] at *; omega) | exact chk_bad2 (trOK_stop iv (by assumption) (by first | (simp only [decide_eq_true_eq, decide_eq_false_iff_not] at *; omega) | omega | (simp only [decide_eq_true_eq, decide_eq_false_iff_not] at *; by_cases hk : k = 0 <;> first | omega | (have := ip hk; omega)))) | exact chk_ok (by unfold headOK; simp only [decide_eq_true_eq, decide_eq_false_iff_not] at *; omega) (trOK_end iv (by omega)) : 380 = (chk f))))
        · skip
          have n56 : (decide (0 ≤ f.p ∧ f.p ≤ 1125899906842624)) = true := not_f h53
          have g57 : (0 ≤ f.p ∧ f.p ≤ 1125899906842624) := of_decide_eq_true (n56)
          rcases Bool.eq_false_or_eq_true (!(f.s == 0)) with h58 | h58
          · skip
            have n59 : (f.s == 0) = false := not_t h58
            have g60 : f.s ≠ 0 := ne_of_beq_false (n59)
            refine T_reg [{}, {}, { d := some (B (decide (0 ≤ f.a ∧ f.a ≤ 1125899906842624))) }, {}, {}, {}, {}, { d := some (B (decide (0 ≤ f.p ∧ f.p ≤ 1125899906842624))) }, {}, { d := some (B false) }, {}, {}, {}, { d := some (B false) }, {}, { g := false }, { g := false }, { g := false }, { d := some (B true) }, {}, { g := false }, { g := false }, { g := false }, { d := some (B true) }, {}, { g := false }, { g := false }, { g := false }, { g := false }, { d := some (B true) }] [1, 48] [] (mk 88 [(1, (.one (.ref 1 0))), (48, (dt (B true)))] [(1, (.var [(.dat (I f.a)), (.dat (I f.p)), (.dat (I f.m)), (.dat (I f.s)), (.dat (.sl 2 (f.t.map encTrain)))]))]) (True ∧ True ∧ True ∧ True ∧ True ∧ (Ret Try.prog 74 [(I f.a)] (B (decide (0 ≤ f.a ∧ f.a ≤ 1125899906842624)))) ∧ True ∧ True ∧ True ∧ True ∧ (((!(decide (0 ≤ f.a ∧ f.a ≤ 1125899906842624))) == false) = true) ∧ True ∧ (((!(decide (0 ≤ f.a ∧ f.a ≤ 1125899906842624))) == false) = true) ∧ True ∧ (((!(decide (0 ≤ f.a ∧ f.a ≤ 1125899906842624))) == false) = true) ∧ (Ret Try.prog 74 [(I f.p)] (B (decide (0 ≤ f.p ∧ f.p ≤ 1125899906842624)))) ∧ (((!(decide (0 ≤ f.a ∧ f.a ≤ 1125899906842624))) == false) = true) ∧ True ∧ True ∧ ((!(decide (0 ≤ f.a ∧ f.a ≤ 1125899906842624))) = false) ∧ True ∧ True ∧ (((!(decide (0 ≤ f.p ∧ f.p ≤ 1125899906842624))) == false) = true) ∧ True ∧ (((!(decide (0 ≤ f.p ∧ f.p ≤ 1125899906842624))) == false) = true) ∧ True ∧ True ∧ ((!(decide (0 ≤ f.p ∧ f.p ≤ 1125899906842624))) = false) ∧ True ∧ True ∧ (((!(f.s == 0)) == false) = false) ∧ (((!(f.s == 0)) == false) = false) ∧ (((!(f.s == 0)) == false) = false) ∧ True ∧ ((!(f.s == 0)) = true) ∧ True ∧ True ∧ ((true == false) = false) ∧ ((true == false) = false) ∧ ((true == false) = false) ∧ True ∧ (true = true) ∧ True ∧ True ∧ ((true == false) = false) ∧ ((true == false) = false) ∧ ((true == false) = false) ∧ ((true == false) = false) ∧ True ∧ (true = true) ∧ True) (by kernel_rfl) ⟨trivial, trivial, trivial, trivial, trivial, (ret_isAmt _), trivial, trivial, trivial, trivial, (by rw [show (!(decide (0 ≤ f.a ∧ f.a ≤ 1125899906842624))) = false from h48]; rfl), trivial, (by rw [show (!(decide (0 ≤ f.a ∧ f.a ≤ 1125899906842624))) = false from h48]; rfl), trivial, (by rw [show (!(decide (0 ≤ f.a ∧ f.a ≤ 1125899906842624))) = false from h48]; rfl), (ret_isAmt _), (by rw [show (!(decide (0 ≤ f.a ∧ f.a ≤ 1125899906842624))) = false from h48]; rfl), trivial, trivial, h48, trivial, trivial, (by rw [show (!(decide (0 ≤ f.p ∧ f.p ≤ 1125899906842624))) = false from h53]; rfl), trivial, (by rw [show (!(decide (0 ≤ f.p ∧ f.p ≤ 1125899906842624))) = false from h53]; rfl), trivial, trivial, h53, trivial, trivial, (by rw [show (!(f.s == 0)) = true from h58]; rfl), (by rw [show (!(f.s == 0)) = true from h58]; rfl), (by rw [show (!(f.s == 0)) = true from h58]; rfl), trivial, h58, trivial, trivial, (by rw [show true = true from rfl]; rfl), (by rw [show true = true from rfl]; rfl), (by rw [show true = true from rfl]; rfl), trivial, rfl, trivial, trivial, (by rw [show true = true from rfl]; rfl), (by rw [show true = true from rfl]; rfl), (by rw [show true = true from rfl]; rfl), (by rw [show true = true from rfl]; rfl), trivial, rfl, trivial⟩ ?_
            refine T_cond true (by kernel_rfl) (fun _ => ?_) (fun h => absurd (h.symm.trans rfl) (by decide))
            refine T_reg [] [2] [1] (mk 88 [(2, (dt (I 380)))] []) (True ∧ True ∧ True) (by kernel_rfl) ⟨trivial, trivial, trivial⟩ ?_
            refine T_ret ?_
            exact ret_here [(dt (I 380))] (by kernel_rfl) (.inl (congrArg I (by first | exact chk_bad (by unfold headOK; simp only [decide_eq_true_eq, decide_eq_false_iff_not] at *; omega) | exact chk_bad2 (trOK_stop iv (by assumption) (by first | (simp only [decide_eq_true_eq, decide_eq_false_iff_not] at *; omega) | omega | (simp only [decide_eq_true_eq, decide_eq_false_iff_not] at *; by_cases hk : k = 0 <;> first | omega | (have := ip hk; omega)))) | exact chk_ok (by unfold headOK; simp only [decide_eq_true_eq, decide_eq_false_iff_not] at *; omega) (trOK_end iv (by omega)) : 380 = (chk f))))
          · skip
            have n61 : (f.s == 0) = true := not_f h58
            have g62 : f.s = 0 := eq_of_beq (n61)
            rcases Bool.eq_false_or_eq_true (decide (f.s < 0)) with h63 | h63
            · skip
              have g64 : f.s < 0 := of_decide_eq_true (h63)
              refine T_reg [{}, {}, { d := some (B (decide (0 ≤ f.a ∧ f.a ≤ 1125899906842624))) }, {}, {}, {}, {}, { d := some (B (decide (0 ≤ f.p ∧ f.p ≤ 1125899906842624))) }, {}, { d := some (B false) }, {}, {}, {}, { d := some (B false) }, {}, {}, {}, {}, { d := some (B false) }, {}, { g := false }, { g := false }, { g := false }, { d := some (B true) }, {}, { g := false }, { g := false }, { g := false }, { g := false }, { d := some (B true) }] [1, 48] [] (mk 88 [(1, (.one (.ref 1 0))), (48, (dt (B true)))] [(1, (.var [(.dat (I f.a)), (.dat (I f.p)), (.dat (I f.m)), (.dat (I f.s)), (.dat (.sl 2 (f.t.map encTrain)))]))]) (True ∧ True ∧ True ∧ True ∧ True ∧ (Ret Try.prog 74 [(I f.a)] (B (decide (0 ≤ f.a ∧ f.a ≤ 1125899906842624)))) ∧ True ∧ True ∧ True ∧ True ∧ (((!(decide (0 ≤ f.a ∧ f.a ≤ 1125899906842624))) == false) = true) ∧ True ∧ (((!(decide (0 ≤ f.a ∧ f.a ≤ 1125899906842624))) == false) = true) ∧ True ∧ (((!(decide (0 ≤ f.a ∧ f.a ≤ 1125899906842624))) == false) = true) ∧ (Ret Try.prog 74 [(I f.p)] (B (decide (0 ≤ f.p ∧ f.p ≤ 1125899906842624)))) ∧ (((!(decide (0 ≤ f.a ∧ f.a ≤ 1125899906842624))) == false) = true) ∧ True ∧ True ∧ ((!(decide (0 ≤ f.a ∧ f.a ≤ 1125899906842624))) = false) ∧ True ∧ True ∧ (((!(decide (0 ≤ f.p ∧ f.p ≤ 1125899906842624))) == false) = true) ∧ True ∧ (((!(decide (0 ≤ f.p ∧ f.p ≤ 1125899906842624))) == false) = true) ∧ True ∧ True ∧ ((!(decide (0 ≤ f.p ∧ f.p ≤ 1125899906842624))) = false) ∧ True ∧ True ∧ (((!(f.s == 0)) == false) = true) ∧ True ∧ (((!(f.s == 0)) == false) = true) ∧ True ∧ (((!(f.s == 0)) == false) = true) ∧ True ∧ True ∧ ((!(f.s == 0)) = false) ∧ True ∧ True ∧ (((decide (f.s < 0)) == false) = false) ∧ (((decide (f.s < 0)) == false) = false) ∧ (((decide (f.s < 0)) == false) = false) ∧ True ∧ ((decide (f.s < 0)) = true) ∧ True ∧ True ∧ ((true == false) = false) ∧ ((true == false) = false) ∧ ((true == false) = false) ∧ ((true == false) = false) ∧ True ∧ (true = true) ∧ True) (by kernel_rfl) ⟨trivial, trivial, trivial, trivial, trivial, (ret_isAmt _), trivial, trivial, trivial, trivial, (by rw [show (!(decide (0 ≤ f.a ∧ f.a ≤ 1125899906842624))) = false from h48]; rfl), trivial, (by rw [show (!(decide (0 ≤ f.a ∧ f.a ≤ 1125899906842624))) = false from h48]; rfl), trivial, (by rw [show (!(decide (0 ≤ f.a ∧ f.a ≤ 1125899906842624))) = false from h48]; rfl), (ret_isAmt _), (by rw [show (!(decide (0 ≤ f.a ∧ f.a ≤ 1125899906842624))) = false from h48]; rfl), trivial, trivial, h48, trivial, trivial, (by rw [show (!(decide (0 ≤ f.p ∧ f.p ≤ 1125899906842624))) = false from h53]; rfl), trivial, (by rw [show (!(decide (0 ≤ f.p ∧ f.p ≤ 1125899906842624))) = false from h53]; rfl), trivial, trivial, h53, trivial, trivial, (by rw [show (!(f.s == 0)) = false from h58]; rfl), trivial, (by rw [show (!(f.s == 0)) = false from h58]; rfl), trivial, (by rw [show (!(f.s == 0)) = false from h58]; rfl), trivial, trivial, h58, trivial, trivial, (by rw [show (decide (f.s < 0)) = true from h63]; rfl), (by rw [show (decide (f.s < 0)) = true from h63]; rfl), (by rw [show (decide (f.s < 0)) = true from h63]; rfl), trivial, h63, trivial, trivial, (by rw [show true = true from rfl]; rfl), (by rw [show true = true from rfl]; rfl), (by rw [show true = true from rfl]; rfl), (by rw [show true = true from rfl]; rfl), trivial, rfl, trivial⟩ ?_
              refine T_cond true (by kernel_rfl) (fun _ => ?_) (fun h => absurd (h.symm.trans rfl) (by decide))
              refine T_reg [] [2] [1] (mk 88 [(2, (dt (I 380)))] []) (True ∧ True ∧ True) (by kernel_rfl) ⟨trivial, trivial, trivial⟩ ?_
              refine T_ret ?_
              exact ret_here [(dt (I 380))] (by kernel_rfl) (.inl (congrArg I (by first | exact chk_bad (by unfold headOK; simp only [decide_eq_true_eq, decide_eq_false_iff_not] at *; omega) | exact chk_bad2 (trOK_stop iv (by assumption) (by first | (simp only [decide_eq_true_eq, decide_eq_false_iff_not] at *; omega) | omega | (simp only [decide_eq_true_eq, decide_eq_false_iff_not] at *; by_cases hk : k = 0 <;> first | omega | (have := ip hk; omega)))) | exact chk_ok (by unfold headOK; simp only [decide_eq_true_eq, decide_eq_false_iff_not] at *; omega) (trOK_end iv (by omega)) : 380 = (chk f))))
            · skip
              have g65 : ¬ (f.s < 0) := of_decide_eq_false (h63)
              rcases Bool.eq_false_or_eq_true (decide (f.s > 1000)) with h66 | h66
              · skip
                have g67 : f.s > 1000 := of_decide_eq_true (h66)
                refine T_reg [{}, {}, { d := some (B (decide (0 ≤ f.a ∧ f.a ≤ 1125899906842624))) }, {}, {}, {}, {}, { d := some (B (decide (0 ≤ f.p ∧ f.p ≤ 1125899906842624))) }, {}, { d := some (B false) }, {}, {}, {}, { d := some (B false) }, {}, {}, {}, {}, { d := some (B false) }, {}, {}, {}, {}, { d := some (B false) }, {}, { g := false }, { g := false }, { g := false }, { g := false }, { d := some (B true) }] [1, 48] [] (mk 88 [(1, (.one (.ref 1 0))), (48, (dt (B true)))] [(1, (.var [(.dat (I f.a)), (.dat (I f.p)), (.dat (I f.m)), (.dat (I f.s)), (.dat (.sl 2 (f.t.map encTrain)))]))]) (True ∧ True ∧ True ∧ True ∧ True ∧ (Ret Try.prog 74 [(I f.a)] (B (decide (0 ≤ f.a ∧ f.a ≤ 1125899906842624)))) ∧ True ∧ True ∧ True ∧ True ∧ (((!(decide (0 ≤ f.a ∧ f.a ≤ 1125899906842624))) == false) = true) ∧ True ∧ (((!(decide (0 ≤ f.a ∧ f.a ≤ 1125899906842624))) == false) = true) ∧ True ∧ (((!(decide (0 ≤ f.a ∧ f.a ≤ 1125899906842624))) == false) = true) ∧ (Ret Try.prog 74 [(I f.p)] (B (decide (0 ≤ f.p ∧ f.p ≤ 1125899906842624)))) ∧ (((!(decide (0 ≤ f.a ∧ f.a ≤ 1125899906842624))) == false) = true) ∧ True ∧ True ∧ ((!(decide (0 ≤ f.a ∧ f.a ≤ 1125899906842624))) = false) ∧ True ∧ True ∧ (((!(decide (0 ≤ f.p ∧ f.p ≤ 1125899906842624))) == false) = true) ∧ True ∧ (((!(decide (0 ≤ f.p ∧ f.p ≤ 1125899906842624))) == false) = true) ∧ True ∧ True ∧ ((!(decide (0 ≤ f.p ∧ f.p ≤ 1125899906842624))) = false) ∧ True ∧ True ∧ (((!(f.s == 0)) == false) = true) ∧ True ∧ (((!(f.s == 0)) == false) = true) ∧ True ∧ (((!(f.s == 0)) == false) = true) ∧ True ∧ True ∧ ((!(f.s == 0)) = false) ∧ True ∧ True ∧ (((decide (f.s < 0)) == false) = true) ∧ True ∧ (((decide (f.s < 0)) == false) = true) ∧ True ∧ (((decide (f.s < 0)) == false) = true) ∧ True ∧ True ∧ ((decide (f.s < 0)) = false) ∧ True ∧ True ∧ (((decide (f.s > 1000)) == false) = false) ∧ (((decide (f.s > 1000)) == false) = false) ∧ (((decide (f.s > 1000)) == false) = false) ∧ (((decide (f.s > 1000)) == false) = false) ∧ True ∧ ((decide (f.s > 1000)) = true) ∧ True) (by kernel_rfl) ⟨trivial, trivial, trivial, trivial, trivial, (ret_isAmt _), trivial, trivial, trivial, trivial, (by rw [show (!(decide (0 ≤ f.a ∧ f.a ≤ 1125899906842624))) = false from h48]; rfl), trivial, (by rw [show (!(decide (0 ≤ f.a ∧ f.a ≤ 1125899906842624))) = false from h48]; rfl), trivial, (by rw [show (!(decide (0 ≤ f.a ∧ f.a ≤ 1125899906842624))) = false from h48]; rfl), (ret_isAmt _), (by rw [show (!(decide (0 ≤ f.a ∧ f.a ≤ 1125899906842624))) = false from h48]; rfl), trivial, trivial, h48, trivial, trivial, (by rw [show (!(decide (0 ≤ f.p ∧ f.p ≤ 1125899906842624))) = false from h53]; rfl), trivial, (by rw [show (!(decide (0 ≤ f.p ∧ f.p ≤ 1125899906842624))) = false from h53]; rfl), trivial, trivial, h53, trivial, trivial, (by rw [show (!(f.s == 0)) = false from h58]; rfl), trivial, (by rw [show (!(f.s == 0)) = false from h58]; rfl), trivial, (by rw [show (!(f.s == 0)) = false from h58]; rfl), trivial, trivial, h58, trivial, trivial, (by rw [show (decide (f.s < 0)) = false from h63]; rfl), trivial, (by rw [show (decide (f.s < 0)) = false from h63]; rfl), trivial, (by rw [show (decide (f.s < 0)) = false from h63]; rfl), trivial, trivial, h63, trivial, trivial, (by rw [show (decide (f.s > 1000)) = true from h66]; rfl), (by rw [show (decide (f.s > 1000)) = true from h66]; rfl), (by rw [show (decide (f.s > 1000)) = true from h66]; rfl), (by rw [show (decide (f.s > 1000)) = true from h66]; rfl), trivial, h66, trivial⟩ ?_
                refine T_cond true (by kernel_rfl) (fun _ => ?_) (fun h => absurd (h.symm.trans rfl) (by decide))
                refine T_reg [] [2] [1] (mk 88 [(2, (dt (I 380)))] []) (True ∧ True ∧ True) (by kernel_rfl) ⟨trivial, trivial, trivial⟩ ?_
                refine T_ret ?_
                exact ret_here [(dt (I 380))] (by kernel_rfl) (.inl (congrArg I (by first | exact chk_bad (by unfold headOK; simp only [decide_eq_true_eq, decide_eq_false_iff_not] at *; omega) | exact chk_bad2 (trOK_stop iv (by assumption) (by first | (simp only [decide_eq_true_eq, decide_eq_false_iff_not] at *; omega) | omega | (simp only [decide_eq_true_eq, decide_eq_false_iff_not] at *; by_cases hk : k = 0 <;> first | omega | (have := ip hk; omega)))) | exact chk_ok (by unfold headOK; simp only [decide_eq_true_eq, decide_eq_false_iff_not] at *; omega) (trOK_end iv (by omega)) : 380 = (chk f))))
              · skip
                have g68 : ¬ (f.s > 1000) := of_decide_eq_false (h66)
                refine T_reg [{}, {}, { d := some (B (decide (0 ≤ f.a ∧ f.a ≤ 1125899906842624))) }, {}, {}, {}, {}, { d := some (B (decide (0 ≤ f.p ∧ f.p ≤ 1125899906842624))) }, {}, { d := some (B false) }, {}, {}, {}, { d := some (B false) }, {}, {}, {}, {}, { d := some (B false) }, {}, {}, {}, {}, { d := some (B false) }, {}, {}, {}, { d := some (I ((f.t.length : Nat) : Int)) }, {}, { d := some (B false) }] [1, 48] [] (mk 88 [(1, (.one (.ref 1 0))), (48, (dt (B (decide (((f.t.length : Nat) : Int) > 40)))))] [(1, (.var [(.dat (I f.a)), (.dat (I f.p)), (.dat (I f.m)), (.dat (I f.s)), (.dat (.sl 2 (f.t.map encTrain)))]))]) (True ∧ True ∧ True ∧ True ∧ True ∧ (Ret Try.prog 74 [(I f.a)] (B (decide (0 ≤ f.a ∧ f.a ≤ 1125899906842624)))) ∧ True ∧ True ∧ True ∧ True ∧ (((!(decide (0 ≤ f.a ∧ f.a ≤ 1125899906842624))) == false) = true) ∧ True ∧ (((!(decide (0 ≤ f.a ∧ f.a ≤ 1125899906842624))) == false) = true) ∧ True ∧ (((!(decide (0 ≤ f.a ∧ f.a ≤ 1125899906842624))) == false) = true) ∧ (Ret Try.prog 74 [(I f.p)] (B (decide (0 ≤ f.p ∧ f.p ≤ 1125899906842624)))) ∧ (((!(decide (0 ≤ f.a ∧ f.a ≤ 1125899906842624))) == false) = true) ∧ True ∧ True ∧ ((!(decide (0 ≤ f.a ∧ f.a ≤ 1125899906842624))) = false) ∧ True ∧ True ∧ (((!(decide (0 ≤ f.p ∧ f.p ≤ 1125899906842624))) == false) = true) ∧ True ∧ (((!(decide (0 ≤ f.p ∧ f.p ≤ 1125899906842624))) == false) = true) ∧ True ∧ True ∧ ((!(decide (0 ≤ f.p ∧ f.p ≤ 1125899906842624))) = false) ∧ True ∧ True ∧ (((!(f.s == 0)) == false) = true) ∧ True ∧ (((!(f.s == 0)) == false) = true) ∧ True ∧ (((!(f.s == 0)) == false) = true) ∧ True ∧ True ∧ ((!(f.s == 0)) = false) ∧ True ∧ True ∧ (((decide (f.s < 0)) == false) = true) ∧ True ∧ (((decide (f.s < 0)) == false) = true) ∧ True ∧ (((decide (f.s < 0)) == false) = true) ∧ True ∧ True ∧ ((decide (f.s < 0)) = false) ∧ True ∧ True ∧ (((decide (f.s > 1000)) == false) = true) ∧ True ∧ (((decide (f.s > 1000)) == false) = true) ∧ True ∧ (((decide (f.s > 1000)) == false) = true) ∧ (True ∧ D.int .i64 ((f.t.map encTrain).length : Int) = (I ((f.t.length : Nat) : Int))) ∧ (((decide (f.s > 1000)) == false) = true) ∧ True ∧ True ∧ ((decide (f.s > 1000)) = false) ∧ True) (by kernel_rfl) ⟨trivial, trivial, trivial, trivial, trivial, (ret_isAmt _), trivial, trivial, trivial, trivial, (by rw [show (!(decide (0 ≤ f.a ∧ f.a ≤ 1125899906842624))) = false from h48]; rfl), trivial, (by rw [show (!(decide (0 ≤ f.a ∧ f.a ≤ 1125899906842624))) = false from h48]; rfl), trivial, (by rw [show (!(decide (0 ≤ f.a ∧ f.a ≤ 1125899906842624))) = false from h48]; rfl), (ret_isAmt _), (by rw [show (!(decide (0 ≤ f.a ∧ f.a ≤ 1125899906842624))) = false from h48]; rfl), trivial, trivial, h48, trivial, trivial, (by rw [show (!(decide (0 ≤ f.p ∧ f.p ≤ 1125899906842624))) = false from h53]; rfl), trivial, (by rw [show (!(decide (0 ≤ f.p ∧ f.p ≤ 1125899906842624))) = false from h53]; rfl), trivial, trivial, h53, trivial, trivial, (by rw [show (!(f.s == 0)) = false from h58]; rfl), trivial, (by rw [show (!(f.s == 0)) = false from h58]; rfl), trivial, (by rw [show (!(f.s == 0)) = false from h58]; rfl), trivial, trivial, h58, trivial, trivial, (by rw [show (decide (f.s < 0)) = false from h63]; rfl), trivial, (by rw [show (decide (f.s < 0)) = false from h63]; rfl), trivial, (by rw [show (decide (f.s < 0)) = false from h63]; rfl), trivial, trivial, h63, trivial, trivial, (by rw [show (decide (f.s > 1000)) = false from h66]; rfl), trivial, (by rw [show (decide (f.s > 1000)) = false from h66]; rfl), trivial, (by rw [show (decide (f.s > 1000)) = false from h66]; rfl), ⟨trivial, by rw [List.length_map]⟩, (by rw [show (decide (f.s > 1000)) = false from h66]; rfl), trivial, trivial, h66, trivial⟩ ?_
                refine T_cond (decide (((f.t.length : Nat) : Int) > 40)) (by kernel_rfl) (fun h69 => ?_) (fun h69 => ?_)
                · skip
                  have g70 : ((f.t.length : Nat) : Int) > 40 := of_decide_eq_true (h69)
                  refine T_reg [] [2] [1] (mk 88 [(2, (dt (I 380)))] []) (True ∧ True ∧ True) (by kernel_rfl) ⟨trivial, trivial, trivial⟩ ?_
                  refine T_ret ?_
                  exact ret_here [(dt (I 380))] (by kernel_rfl) (.inl (congrArg I (by first | exact chk_bad (by unfold headOK; simp only [decide_eq_true_eq, decide_eq_false_iff_not] at *; omega) | exact chk_bad2 (trOK_stop iv (by assumption) (by first | (simp only [decide_eq_true_eq, decide_eq_false_iff_not] at *; omega) | omega | (simp only [decide_eq_true_eq, decide_eq_false_iff_not] at *; by_cases hk : k = 0 <;> first | omega | (have := ip hk; omega)))) | exact chk_ok (by unfold headOK; simp only [decide_eq_true_eq, decide_eq_false_iff_not] at *; omega) (trOK_end iv (by omega)) : 380 = (chk f))))
                · skip
                  have g71 : ¬ (((f.t.length : Nat) : Int) > 40) := of_decide_eq_false (h69)
                  refine T_skip ?_
                  refine T_seq ?_
                  refine T_reg [{}, {}, { d := some (I ((f.t.length : Nat) : Int)) }] [1, 50, 51, 52] [] (mk 88 [(1, (.one (.ref 1 0))), (50, (dt (.sl 2 (f.t.map encTrain)))), (51, (dt (I ((f.t.length : Nat) : Int)))), (52, (dt (I 0)))] [(1, (.var [(.dat (I f.a)), (.dat (I f.p)), (.dat (I f.m)), (.dat (I f.s)), (.dat (.sl 2 (f.t.map encTrain)))]))]) (True ∧ True ∧ True ∧ True ∧ True ∧ (True ∧ D.int .i64 ((f.t.map encTrain).length : Int) = (I ((f.t.length : Nat) : Int))) ∧ True ∧ True ∧ True) (by kernel_rfl) ⟨trivial, trivial, trivial, trivial, trivial, ⟨trivial, by rw [List.length_map]⟩, trivial, trivial, trivial⟩ ?_
                  refine T_block ?_
                  refine T_turn [] [1, 50, 51, 52] [] ((fun ((k, e) : Nat × Train) => (mk 88 [(1, (.one (.ref 1 0))), (50, (dt (.sl 2 (f.t.map encTrain)))), (51, (dt (I ((f.t.length : Nat) : Int)))), (52, (dt (I ((k : Nat) : Int))))] [(1, (.var [(.dat (I f.a)), (.dat (I f.p)), (.dat (I f.m)), (.dat (I f.s)), (.dat (.sl 2 (f.t.map encTrain)))]))])) (0, ⟨-1, 0⟩)) (by kernel_rfl) (T_loop (α := Nat × Train) (fun ((k, e) : Nat × Train) => (mk 88 [(1, (.one (.ref 1 0))), (50, (dt (.sl 2 (f.t.map encTrain)))), (51, (dt (I ((f.t.length : Nat) : Int)))), (52, (dt (I ((k : Nat) : Int))))] [(1, (.var [(.dat (I f.a)), (.dat (I f.p)), (.dat (I f.m)), (.dat (I f.s)), (.dat (.sl 2 (f.t.map encTrain)))]))])) (fun ((k, e) : Nat × Train) => (k ≤ (f.t).length) ∧ (trOK e.c (f.t.drop k) = trOK (-1) f.t) ∧ (k = 0 → e.c = -1) ∧ (0 < k → f.t[k - 1]? = some e) ∧ True) (fun ((k, e) : Nat × Train) => (f.t).length - k) (0, ⟨-1, 0⟩) ⟨Nat.zero_le _, rfl, fun _ => rfl, fun h => absurd h (Nat.lt_irrefl _), trivial⟩ ?_)
                  rintro ⟨k, e⟩ ⟨ik, iv, ip, ip2, _⟩
                  refine T_reg [] [1, 50, 51, 52, 53] [] (mk 88 [(1, (.one (.ref 1 0))), (50, (dt (.sl 2 (f.t.map encTrain)))), (51, (dt (I ((f.t.length : Nat) : Int)))), (52, (dt (I ((k : Nat) : Int)))), (53, (dt (B (decide (((k : Nat) : Int) < ((f.t.length : Nat) : Int))))))] [(1, (.var [(.dat (I f.a)), (.dat (I f.p)), (.dat (I f.m)), (.dat (I f.s)), (.dat (.sl 2 (f.t.map encTrain)))]))]) (True ∧ True ∧ True) (by kernel_rfl) ⟨trivial, trivial, trivial⟩ ?_
                  refine T_seq ?_
                  refine T_cond (decide (((k : Nat) : Int) < ((f.t.length : Nat) : Int))) (by kernel_rfl) (fun h72 => ?_) (fun h72 => ?_)
                  · skip
                    have g73 : ((k : Nat) : Int) < ((f.t.length : Nat) : Int) := of_decide_eq_true (h72)
                    refine T_skip ?_
                    refine T_seq ?_
                    refine T_block ?_
                    have lt74 : k < (f.t).length := by first | omega | (simp only [List.length_set, List.length_map, List.length_append, List.length_cons, List.length_nil] at *; omega)
                    obtain ⟨x75, hx76⟩ : ∃ x, (f.t)[k]? = some x := ⟨_, List.getElem?_eq_getElem lt74⟩
                    refine T_reg [{}, { d := some (.agg [(I x75.c), (I x75.s)]) }] [1, 4, 5, 50, 51, 52] [] (mk 88 [(1, (.one (.ref 1 0))), (4, (dt (I ((k : Nat) : Int)))), (5, (.one (.ref 5 0))), (50, (dt (.sl 2 (f.t.map encTrain)))), (51, (dt (I ((f.t.length : Nat) : Int)))), (52, (dt (I ((k : Nat) : Int))))] [(5, (.var [(.dat (I x75.c)), (.dat (I x75.s))])), (1, (.var [(.dat (I f.a)), (.dat (I f.p)), (.dat (I f.m)), (.dat (I f.s)), (.dat (.sl 2 (f.t.map encTrain)))]))]) (True ∧ True ∧ True ∧ (0 ≤ ((k : Nat) : Int) ∧ (f.t.map encTrain)[k]? = some (.agg [(I x75.c), (I x75.s)])) ∧ True ∧ True ∧ True ∧ True ∧ True ∧ True ∧ True ∧ True ∧ True) (by kernel_rfl) ⟨trivial, trivial, trivial, ⟨by omega, by rw [List.getElem?_map, hx76]; rfl⟩, trivial, trivial, trivial, trivial, trivial, trivial, trivial, trivial, trivial⟩ ?_
                    rcases Bool.eq_false_or_eq_true (!(decide (0 ≤ x75.c ∧ x75.c < 192))) with h77 | h77
                    · skip
                      have n78 : (decide (0 ≤ x75.c ∧ x75.c < 192)) = false := not_t h77
                      have g79 : ¬ (0 ≤ x75.c ∧ x75.c < 192) := of_decide_eq_false (n78)
                      refine T_regD 30 [{}, {}, { d := some (B (decide (0 ≤ x75.c ∧ x75.c < 192))) }, {}, {}, { g := false }, { g := false }, { g := false }, { d := some (B true) }, {}, { g := false }, { g := false }, { g := false }, { d := some (B true) }, {}, { g := false }, { g := false }, { g := false }, {}, {}, {}, {}, {}, {}, {}, {}, {}, {}, { g := false }, { d := some (B true) }] [1, 50, 51, 52, 86] [5] (mk 88 [(1, (.one (.ref 1 0))), (50, (dt (.sl 2 (f.t.map encTrain)))), (51, (dt (I ((f.t.length : Nat) : Int)))), (52, (dt (I ((k : Nat) : Int)))), (86, (dt (B true)))] [(1, (.var [(.dat (I f.a)), (.dat (I f.p)), (.dat (I f.m)), (.dat (I f.s)), (.dat (.sl 2 (f.t.map encTrain)))]))]) ((True ∧ True ∧ True ∧ True ∧ True ∧ (Ret Try.prog 49 [(I x75.c)] (B (decide (0 ≤ x75.c ∧ x75.c < 192)))) ∧ True ∧ True ∧ True ∧ True ∧ (((!(decide (0 ≤ x75.c ∧ x75.c < 192))) == false) = false) ∧ (((!(decide (0 ≤ x75.c ∧ x75.c < 192))) == false) = false) ∧ (((!(decide (0 ≤ x75.c ∧ x75.c < 192))) == false) = false) ∧ True ∧ ((!(decide (0 ≤ x75.c ∧ x75.c < 192))) = true) ∧ True ∧ True ∧ ((true == false) = false) ∧ ((true == false) = false) ∧ ((true == false) = false) ∧ True ∧ (true = true) ∧ True ∧ True ∧ ((true == false) = false) ∧ ((true == false) = false) ∧ ((true == false) = false) ∧ True ∧ True ∧ True ∧ True ∧ True ∧ True ∧ True ∧ True ∧ True ∧ True ∧ ((true == false) = false) ∧ True ∧ (true = true) ∧ True) ∧ True) (by kernel_rfl) (by kernel_rfl) (by kernel_rfl) ⟨⟨trivial, trivial, trivial, trivial, trivial, (ret_isClub _), trivial, trivial, trivial, trivial, (by rw [show (!(decide (0 ≤ x75.c ∧ x75.c < 192))) = true from h77]; rfl), (by rw [show (!(decide (0 ≤ x75.c ∧ x75.c < 192))) = true from h77]; rfl), (by rw [show (!(decide (0 ≤ x75.c ∧ x75.c < 192))) = true from h77]; rfl), trivial, h77, trivial, trivial, (by rw [show true = true from rfl]; rfl), (by rw [show true = true from rfl]; rfl), (by rw [show true = true from rfl]; rfl), trivial, rfl, trivial, trivial, (by rw [show true = true from rfl]; rfl), (by rw [show true = true from rfl]; rfl), (by rw [show true = true from rfl]; rfl), trivial, trivial, trivial, trivial, trivial, trivial, trivial, trivial, trivial, trivial, (by rw [show true = true from rfl]; rfl), trivial, rfl, trivial⟩, trivial⟩ ?_
                      refine T_cond true (by kernel_rfl) (fun _ => ?_) (fun h => absurd (h.symm.trans rfl) (by decide))
                      refine T_reg [] [2] [1] (mk 88 [(2, (dt (I 380)))] []) (True ∧ True ∧ True) (by kernel_rfl) ⟨trivial, trivial, trivial⟩ ?_
                      refine T_ret ?_
                      exact ret_here [(dt (I 380))] (by kernel_rfl) (.inl (congrArg I (by first | exact chk_bad (by unfold headOK; simp only [decide_eq_true_eq, decide_eq_false_iff_not] at *; omega) | exact chk_bad2 (trOK_stop iv (by assumption) (by first | (simp only [decide_eq_true_eq, decide_eq_false_iff_not] at *; omega) | omega | (simp only [decide_eq_true_eq, decide_eq_false_iff_not] at *; by_cases hk : k = 0 <;> first | omega | (have := ip hk; omega)))) | exact chk_ok (by unfold headOK; simp only [decide_eq_true_eq, decide_eq_false_iff_not] at *; omega) (trOK_end iv (by omega)) : 380 = (chk f))))
                    · skip
                      have n80 : (decide (0 ≤ x75.c ∧ x75.c < 192)) = true := not_f h77
                      have g81 : (0 ≤ x75.c ∧ x75.c < 192) := of_decide_eq_true (n80)
                      rcases Bool.eq_false_or_eq_true (decide (x75.s < 1)) with h82 | h82
                      · skip
                        have g83 : x75.s < 1 := of_decide_eq_true (h82)
                        refine T_regD 30 [{}, {}, { d := some (B (decide (0 ≤ x75.c ∧ x75.c < 192))) }, {}, {}, {}, {}, {}, { d := some (B false) }, {}, { g := false }, { g := false }, { g := false }, { d := some (B true) }, {}, { g := false }, { g := false }, { g := false }, {}, {}, {}, {}, {}, {}, {}, {}, {}, {}, { g := false }, { d := some (B true) }] [1, 50, 51, 52, 86] [5] (mk 88 [(1, (.one (.ref 1 0))), (50, (dt (.sl 2 (f.t.map encTrain)))), (51, (dt (I ((f.t.length : Nat) : Int)))), (52, (dt (I ((k : Nat) : Int)))), (86, (dt (B true)))] [(1, (.var [(.dat (I f.a)), (.dat (I f.p)), (.dat (I f.m)), (.dat (I f.s)), (.dat (.sl 2 (f.t.map encTrain)))]))]) ((True ∧ True ∧ True ∧ True ∧ True ∧ (Ret Try.prog 49 [(I x75.c)] (B (decide (0 ≤ x75.c ∧ x75.c < 192)))) ∧ True ∧ True ∧ True ∧ True ∧ (((!(decide (0 ≤ x75.c ∧ x75.c < 192))) == false) = true) ∧ True ∧ (((!(decide (0 ≤ x75.c ∧ x75.c < 192))) == false) = true) ∧ True ∧ (((!(decide (0 ≤ x75.c ∧ x75.c < 192))) == false) = true) ∧ True ∧ True ∧ ((!(decide (0 ≤ x75.c ∧ x75.c < 192))) = false) ∧ True ∧ True ∧ (((decide (x75.s < 1)) == false) = false) ∧ (((decide (x75.s < 1)) == false) = false) ∧ (((decide (x75.s < 1)) == false) = false) ∧ True ∧ ((decide (x75.s < 1)) = true) ∧ True ∧ True ∧ ((true == false) = false) ∧ ((true == false) = false) ∧ ((true == false) = false) ∧ True ∧ True ∧ True ∧ True ∧ True ∧ True ∧ True ∧ True ∧ True ∧ True ∧ ((true == false) = false) ∧ True ∧ (true = true) ∧ True) ∧ True) (by kernel_rfl) (by kernel_rfl) (by kernel_rfl) ⟨⟨trivial, trivial, trivial, trivial, trivial, (ret_isClub _), trivial, trivial, trivial, trivial, (by rw [show (!(decide (0 ≤ x75.c ∧ x75.c < 192))) = false from h77]; rfl), trivial, (by rw [show (!(decide (0 ≤ x75.c ∧ x75.c < 192))) = false from h77]; rfl), trivial, (by rw [show (!(decide (0 ≤ x75.c ∧ x75.c < 192))) = false from h77]; rfl), trivial, trivial, h77, trivial, trivial, (by rw [show (decide (x75.s < 1)) = true from h82]; rfl), (by rw [show (decide (x75.s < 1)) = true from h82]; rfl), (by rw [show (decide (x75.s < 1)) = true from h82]; rfl), trivial, h82, trivial, trivial, (by rw [show true = true from rfl]; rfl), (by rw [show true = true from rfl]; rfl), (by rw [show true = true from rfl]; rfl), trivial, trivial, trivial, trivial, trivial, trivial, trivial, trivial, trivial, trivial, (by rw [show true = true from rfl]; rfl), trivial, rfl, trivial⟩, trivial⟩ ?_
                        refine T_cond true (by kernel_rfl) (fun _ => ?_) (fun h => absurd (h.symm.trans rfl) (by decide))
                        refine T_reg [] [2] [1] (mk 88 [(2, (dt (I 380)))] []) (True ∧ True ∧ True) (by kernel_rfl) ⟨trivial, trivial, trivial⟩ ?_
                        refine T_ret ?_
                        exact ret_here [(dt (I 380))] (by kernel_rfl) (.inl (congrArg I (by first | exact chk_bad (by unfold headOK; simp only [decide_eq_true_eq, decide_eq_false_iff_not] at *; omega) | exact chk_bad2 (trOK_stop iv (by assumption) (by first | (simp only [decide_eq_true_eq, decide_eq_false_iff_not] at *; omega) | omega | (simp only [decide_eq_true_eq, decide_eq_false_iff_not] at *; by_cases hk : k = 0 <;> first | omega | (have := ip hk; omega)))) | exact chk_ok (by unfold headOK; simp only [decide_eq_true_eq, decide_eq_false_iff_not] at *; omega) (trOK_end iv (by omega)) : 380 = (chk f))))
                      · skip
                        have g84 : ¬ (x75.s < 1) := of_decide_eq_false (h82)
                        rcases Bool.eq_false_or_eq_true (decide (x75.s > 12)) with h85 | h85
                        · skip
                          have g86 : x75.s > 12 := of_decide_eq_true (h85)
                          refine T_regD 30 [{}, {}, { d := some (B (decide (0 ≤ x75.c ∧ x75.c < 192))) }, {}, {}, {}, {}, {}, { d := some (B false) }, {}, {}, {}, {}, { d := some (B false) }, {}, { g := false }, { g := false }, { g := false }, {}, {}, {}, {}, {}, {}, {}, {}, {}, {}, { g := false }, { d := some (B true) }] [1, 50, 51, 52, 86] [5] (mk 88 [(1, (.one (.ref 1 0))), (50, (dt (.sl 2 (f.t.map encTrain)))), (51, (dt (I ((f.t.length : Nat) : Int)))), (52, (dt (I ((k : Nat) : Int)))), (86, (dt (B true)))] [(1, (.var [(.dat (I f.a)), (.dat (I f.p)), (.dat (I f.m)), (.dat (I f.s)), (.dat (.sl 2 (f.t.map encTrain)))]))]) ((True ∧ True ∧ True ∧ True ∧ True ∧ (Ret Try.prog 49 [(I x75.c)] (B (decide (0 ≤ x75.c ∧ x75.c < 192)))) ∧ True ∧ True ∧ True ∧ True ∧ (((!(decide (0 ≤ x75.c ∧ x75.c < 192))) == false) = true) ∧ True ∧ (((!(decide (0 ≤ x75.c ∧ x75.c < 192))) == false) = true) ∧ True ∧ (((!(decide (0 ≤ x75.c ∧ x75.c < 192))) == false) = true) ∧ True ∧ True ∧ ((!(decide (0 ≤ x75.c ∧ x75.c < 192))) = false) ∧ True ∧ True ∧ (((decide (x75.s < 1)) == false) = true) ∧ True ∧ (((decide (x75.s < 1)) == false) = true) ∧ True ∧ (((decide (x75.s < 1)) == false) = true) ∧ True ∧ True ∧ ((decide (x75.s < 1)) = false) ∧ True ∧ True ∧ (((decide (x75.s > 12)) == false) = false) ∧ (((decide (x75.s > 12)) == false) = false) ∧ (((decide (x75.s > 12)) == false) = false) ∧ True ∧ True ∧ True ∧ True ∧ True ∧ True ∧ True ∧ True ∧ True ∧ True ∧ (((decide (x75.s > 12)) == false) = false) ∧ True ∧ ((decide (x75.s > 12)) = true) ∧ True) ∧ True) (by kernel_rfl) (by kernel_rfl) (by kernel_rfl) ⟨⟨trivial, trivial, trivial, trivial, trivial, (ret_isClub _), trivial, trivial, trivial, trivial, (by rw [show (!(decide (0 ≤ x75.c ∧ x75.c < 192))) = false from h77]; rfl), trivial, (by rw [show (!(decide (0 ≤ x75.c ∧ x75.c < 192))) = false from h77]; rfl), trivial, (by rw [show (!(decide (0 ≤ x75.c ∧ x75.c < 192))) = false from h77]; rfl), trivial, trivial, h77, trivial, trivial, (by rw [show (decide (x75.s < 1)) = false from h82]; rfl), trivial, (by rw [show (decide (x75.s < 1)) = false from h82]; rfl), trivial, (by rw [show (decide (x75.s < 1)) = false from h82]; rfl), trivial, trivial, h82, trivial, trivial, (by rw [show (decide (x75.s > 12)) = true from h85]; rfl), (by rw [show (decide (x75.s > 12)) = true from h85]; rfl), (by rw [show (decide (x75.s > 12)) = true from h85]; rfl), trivial, trivial, trivial, trivial, trivial, trivial, trivial, trivial, trivial, trivial, (by rw [show (decide (x75.s > 12)) = true from h85]; rfl), trivial, h85, trivial⟩, trivial⟩ ?_
                          refine T_cond true (by kernel_rfl) (fun _ => ?_) (fun h => absurd (h.symm.trans rfl) (by decide))
                          refine T_reg [] [2] [1] (mk 88 [(2, (dt (I 380)))] []) (True ∧ True ∧ True) (by kernel_rfl) ⟨trivial, trivial, trivial⟩ ?_
                          refine T_ret ?_
                          exact ret_here [(dt (I 380))] (by kernel_rfl) (.inl (congrArg I (by first | exact chk_bad (by unfold headOK; simp only [decide_eq_true_eq, decide_eq_false_iff_not] at *; omega) | exact chk_bad2 (trOK_stop iv (by assumption) (by first | (simp only [decide_eq_true_eq, decide_eq_false_iff_not] at *; omega) | omega | (simp only [decide_eq_true_eq, decide_eq_false_iff_not] at *; by_cases hk : k = 0 <;> first | omega | (have := ip hk; omega)))) | exact chk_ok (by unfold headOK; simp only [decide_eq_true_eq, decide_eq_false_iff_not] at *; omega) (trOK_end iv (by omega)) : 380 = (chk f))))
                        · skip
                          have g87 : ¬ (x75.s > 12) := of_decide_eq_false (h85)
                          rcases Bool.eq_false_or_eq_true (decide (((k : Nat) : Int) > 0)) with h88 | h88
                          · skip
                            have g89 : ((k : Nat) : Int) > 0 := of_decide_eq_true (h88)
                            refine T_regD 30 [{}, {}, { d := some (B (decide (0 ≤ x75.c ∧ x75.c < 192))) }, {}, {}, {}, {}, {}, { d := some (B false) }, {}, {}, {}, {}, { d := some (B false) }, {}, {}, {}, {}, {}, {}, {}, {}, {}, { d := some (I (((k : Nat) : Int) - 1)) }, { d := some (.agg [(I e.c), (I e.s)]) }, {}, {}, {}, { d := some (B true) }, { d := some (B false) }] [1, 50, 51, 52, 86] [5] (mk 88 [(1, (.one (.ref 1 0))), (50, (dt (.sl 2 (f.t.map encTrain)))), (51, (dt (I ((f.t.length : Nat) : Int)))), (52, (dt (I ((k : Nat) : Int)))), (86, (dt (B (decide (x75.c ≤ e.c)))))] [(1, (.var [(.dat (I f.a)), (.dat (I f.p)), (.dat (I f.m)), (.dat (I f.s)), (.dat (.sl 2 (f.t.map encTrain)))]))]) ((True ∧ True ∧ True ∧ True ∧ True ∧ (Ret Try.prog 49 [(I x75.c)] (B (decide (0 ≤ x75.c ∧ x75.c < 192)))) ∧ True ∧ True ∧ True ∧ True ∧ (((!(decide (0 ≤ x75.c ∧ x75.c < 192))) == false) = true) ∧ True ∧ (((!(decide (0 ≤ x75.c ∧ x75.c < 192))) == false) = true) ∧ True ∧ (((!(decide (0 ≤ x75.c ∧ x75.c < 192))) == false) = true) ∧ True ∧ True ∧ ((!(decide (0 ≤ x75.c ∧ x75.c < 192))) = false) ∧ True ∧ True ∧ (((decide (x75.s < 1)) == false) = true) ∧ True ∧ (((decide (x75.s < 1)) == false) = true) ∧ True ∧ (((decide (x75.s < 1)) == false) = true) ∧ True ∧ True ∧ ((decide (x75.s < 1)) = false) ∧ True ∧ True ∧ (((decide (x75.s > 12)) == false) = true) ∧ True ∧ (((decide (x75.s > 12)) == false) = true) ∧ True ∧ (((decide (x75.s > 12)) == false) = true) ∧ True ∧ (((decide (((k : Nat) : Int) > 0)) == true) = true) ∧ True ∧ (((decide (((k : Nat) : Int) > 0)) == true) = true) ∧ True ∧ (((decide (((k : Nat) : Int) > 0)) == true) = true) ∧ True ∧ (((decide (((k : Nat) : Int) > 0)) == true) = true) ∧ True ∧ (((decide (((k : Nat) : Int) > 0)) == true) = true) ∧ True ∧ (((decide (((k : Nat) : Int) > 0)) == true) = true) ∧ (IntKind.i64.wrap (((k : Nat) : Int) - 1) = (((k : Nat) : Int) - 1)) ∧ (((decide (((k : Nat) : Int) > 0)) == true) = true) ∧ (0 ≤ (((k : Nat) : Int) - 1) ∧ (f.t.map encTrain)[((((k : Nat) : Int) - 1)).toNat]? = some (.agg [(I e.c), (I e.s)])) ∧ (((decide (((k : Nat) : Int) > 0)) == true) = true) ∧ True ∧ (((decide (((k : Nat) : Int) > 0)) == true) = true) ∧ True ∧ (((decide (((k : Nat) : Int) > 0)) == true) = true) ∧ True ∧ (((decide (x75.s > 12)) == false) = true) ∧ ((decide (((k : Nat) : Int) > 0)) = true) ∧ True ∧ ((decide (x75.s > 12)) = false) ∧ True) ∧ True) (by kernel_rfl) (by kernel_rfl) (by kernel_rfl) ⟨⟨trivial, trivial, trivial, trivial, trivial, (ret_isClub _), trivial, trivial, trivial, trivial, (by rw [show (!(decide (0 ≤ x75.c ∧ x75.c < 192))) = false from h77]; rfl), trivial, (by rw [show (!(decide (0 ≤ x75.c ∧ x75.c < 192))) = false from h77]; rfl), trivial, (by rw [show (!(decide (0 ≤ x75.c ∧ x75.c < 192))) = false from h77]; rfl), trivial, trivial, h77, trivial, trivial, (by rw [show (decide (x75.s < 1)) = false from h82]; rfl), trivial, (by rw [show (decide (x75.s < 1)) = false from h82]; rfl), trivial, (by rw [show (decide (x75.s < 1)) = false from h82]; rfl), trivial, trivial, h82, trivial, trivial, (by rw [show (decide (x75.s > 12)) = false from h85]; rfl), trivial, (by rw [show (decide (x75.s > 12)) = false from h85]; rfl), trivial, (by rw [show (decide (x75.s > 12)) = false from h85]; rfl), trivial, (by rw [show (decide (((k : Nat) : Int) > 0)) = true from h88]; rfl), trivial, (by rw [show (decide (((k : Nat) : Int) > 0)) = true from h88]; rfl), trivial, (by rw [show (decide (((k : Nat) : Int) > 0)) = true from h88]; rfl), trivial, (by rw [show (decide (((k : Nat) : Int) > 0)) = true from h88]; rfl), trivial, (by rw [show (decide (((k : Nat) : Int) > 0)) = true from h88]; rfl), trivial, (by rw [show (decide (((k : Nat) : Int) > 0)) = true from h88]; rfl), (i64_wrap (by omega) (by omega)), (by rw [show (decide (((k : Nat) : Int) > 0)) = true from h88]; rfl), ⟨by omega, by rw [show ((((k : Nat) : Int) - 1)).toNat = k - 1 from by omega]; rw [List.getElem?_map, (ip2 (by omega))]; rfl⟩, (by rw [show (decide (((k : Nat) : Int) > 0)) = true from h88]; rfl), trivial, (by rw [show (decide (((k : Nat) : Int) > 0)) = true from h88]; rfl), trivial, (by rw [show (decide (((k : Nat) : Int) > 0)) = true from h88]; rfl), trivial, (by rw [show (decide (x75.s > 12)) = false from h85]; rfl), h88, trivial, h85, trivial⟩, trivial⟩ ?_
                            refine T_cond (decide (x75.c ≤ e.c)) (by kernel_rfl) (fun h90 => ?_) (fun h90 => ?_)
                            · skip
                              have g91 : x75.c ≤ e.c := of_decide_eq_true (h90)
                              refine T_reg [] [2] [1] (mk 88 [(2, (dt (I 380)))] []) (True ∧ True ∧ True) (by kernel_rfl) ⟨trivial, trivial, trivial⟩ ?_
                              refine T_ret ?_
                              exact ret_here [(dt (I 380))] (by kernel_rfl) (.inl (congrArg I (by first | exact chk_bad (by unfold headOK; simp only [decide_eq_true_eq, decide_eq_false_iff_not] at *; omega) | exact chk_bad2 (trOK_stop iv (by assumption) (by first | (simp only [decide_eq_true_eq, decide_eq_false_iff_not] at *; omega) | omega | (simp only [decide_eq_true_eq, decide_eq_false_iff_not] at *; by_cases hk : k = 0 <;> first | omega | (have := ip hk; omega)))) | exact chk_ok (by unfold headOK; simp only [decide_eq_true_eq, decide_eq_false_iff_not] at *; omega) (trOK_end iv (by omega)) : 380 = (chk f))))
                            · skip
                              have g92 : ¬ (x75.c ≤ e.c) := of_decide_eq_false (h90)
                              refine T_skip ?_
                              refine T_regE [{ d := some (I ((k + 1 : Nat) : Int)) }] (mk 88 [(1, (.one (.ref 1 0))), (50, (dt (.sl 2 (f.t.map encTrain)))), (51, (dt (I ((f.t.length : Nat) : Int)))), (52, (dt (I ((k + 1 : Nat) : Int)))), (86, (dt (B (decide (x75.c ≤ e.c))))), (87, (dt (I ((k + 1 : Nat) : Int))))] [(1, (.var [(.dat (I f.a)), (.dat (I f.p)), (.dat (I f.m)), (.dat (I f.s)), (.dat (.sl 2 (f.t.map encTrain)))]))]) (True ∧ (IntKind.i64.wrap (((k : Nat) : Int) + 1) = ((k + 1 : Nat) : Int)) ∧ True ∧ True ∧ True) (by kernel_rfl) ⟨trivial, (by rw [i64_wrap (by omega) (by omega)]; omega), trivial, trivial, trivial⟩ ?_
                              refine Exists.intro (k + 1, x75) ⟨⟨by omega, trOK_step iv hx76 (by first | (simp only [decide_eq_true_eq, decide_eq_false_iff_not] at *; omega) | omega | (simp only [decide_eq_true_eq, decide_eq_false_iff_not] at *; by_cases hk : k = 0 <;> first | omega | (have := ip hk; omega))), fun h => by omega, fun _ => by simpa using hx76, trivial⟩, by first | omega | (dsimp only; omega), le_turn [] [1, 50, 51, 52] [] (by kernel_rfl)⟩
                          · skip
                            have g93 : ¬ (((k : Nat) : Int) > 0) := of_decide_eq_false (h88)
                            refine T_regD 30 [{}, {}, { d := some (B (decide (0 ≤ x75.c ∧ x75.c < 192))) }, {}, {}, {}, {}, {}, { d := some (B false) }, {}, {}, {}, {}, { d := some (B false) }, {}, {}, {}, {}, { g := false }, { g := false }, { g := false }, { g := false }, { g := false }, { g := false }, { g := false }, { g := false }, { g := false }, { g := false }, { d := some (B false) }, { d := some (B false) }] [1, 50, 51, 52, 86] [5] (mk 88 [(1, (.one (.ref 1 0))), (50, (dt (.sl 2 (f.t.map encTrain)))), (51, (dt (I ((f.t.length : Nat) : Int)))), (52, (dt (I ((k : Nat) : Int)))), (86, (dt (B false)))] [(1, (.var [(.dat (I f.a)), (.dat (I f.p)), (.dat (I f.m)), (.dat (I f.s)), (.dat (.sl 2 (f.t.map encTrain)))]))]) ((True ∧ True ∧ True ∧ True ∧ True ∧ (Ret Try.prog 49 [(I x75.c)] (B (decide (0 ≤ x75.c ∧ x75.c < 192)))) ∧ True ∧ True ∧ True ∧ True ∧ (((!(decide (0 ≤ x75.c ∧ x75.c < 192))) == false) = true) ∧ True ∧ (((!(decide (0 ≤ x75.c ∧ x75.c < 192))) == false) = true) ∧ True ∧ (((!(decide (0 ≤ x75.c ∧ x75.c < 192))) == false) = true) ∧ True ∧ True ∧ ((!(decide (0 ≤ x75.c ∧ x75.c < 192))) = false) ∧ True ∧ True ∧ (((decide (x75.s < 1)) == false) = true) ∧ True ∧ (((decide (x75.s < 1)) == false) = true) ∧ True ∧ (((decide (x75.s < 1)) == false) = true) ∧ True ∧ True ∧ ((decide (x75.s < 1)) = false) ∧ True ∧ True ∧ (((decide (x75.s > 12)) == false) = true) ∧ True ∧ (((decide (x75.s > 12)) == false) = true) ∧ True ∧ (((decide (x75.s > 12)) == false) = true) ∧ True ∧ (((decide (((k : Nat) : Int) > 0)) == true) = false) ∧ (((decide (((k : Nat) : Int) > 0)) == true) = false) ∧ (((decide (((k : Nat) : Int) > 0)) == true) = false) ∧ (((decide (((k : Nat) : Int) > 0)) == true) = false) ∧ (((decide (((k : Nat) : Int) > 0)) == true) = false) ∧ (((decide (((k : Nat) : Int) > 0)) == true) = false) ∧ (((decide (((k : Nat) : Int) > 0)) == true) = false) ∧ (((decide (((k : Nat) : Int) > 0)) == true) = false) ∧ (((decide (((k : Nat) : Int) > 0)) == true) = false) ∧ (((decide (((k : Nat) : Int) > 0)) == true) = false) ∧ (((decide (x75.s > 12)) == false) = true) ∧ ((decide (((k : Nat) : Int) > 0)) = false) ∧ True ∧ ((decide (x75.s > 12)) = false) ∧ True) ∧ True) (by kernel_rfl) (by kernel_rfl) (by kernel_rfl) ⟨⟨trivial, trivial, trivial, trivial, trivial, (ret_isClub _), trivial, trivial, trivial, trivial, (by rw [show (!(decide (0 ≤ x75.c ∧ x75.c < 192))) = false from h77]; rfl), trivial, (by rw [show (!(decide (0 ≤ x75.c ∧ x75.c < 192))) = false from h77]; rfl), trivial, (by rw [show (!(decide (0 ≤ x75.c ∧ x75.c < 192))) = false from h77]; rfl), trivial, trivial, h77, trivial, trivial, (by rw [show (decide (x75.s < 1)) = false from h82]; rfl), trivial, (by rw [show (decide (x75.s < 1)) = false from h82]; rfl), trivial, (by rw [show (decide (x75.s < 1)) = false from h82]; rfl), trivial, trivial, h82, trivial, trivial, (by rw [show (decide (x75.s > 12)) = false from h85]; rfl), trivial, (by rw [show (decide (x75.s > 12)) = false from h85]; rfl), trivial, (by rw [show (decide (x75.s > 12)) = false from h85]; rfl), trivial, (by rw [show (decide (((k : Nat) : Int) > 0)) = false from h88]; rfl), (by rw [show (decide (((k : Nat) : Int) > 0)) = false from h88]; rfl), (by rw [show (decide (((k : Nat) : Int) > 0)) = false from h88]; rfl), (by rw [show (decide (((k : Nat) : Int) > 0)) = false from h88]; rfl), (by rw [show (decide (((k : Nat) : Int) > 0)) = false from h88]; rfl), (by rw [show (decide (((k : Nat) : Int) > 0)) = false from h88]; rfl), (by rw [show (decide (((k : Nat) : Int) > 0)) = false from h88]; rfl), (by rw [show (decide (((k : Nat) : Int) > 0)) = false from h88]; rfl), (by rw [show (decide (((k : Nat) : Int) > 0)) = false from h88]; rfl), (by rw [show (decide (((k : Nat) : Int) > 0)) = false from h88]; rfl), (by rw [show (decide (x75.s > 12)) = false from h85]; rfl), h88, trivial, h85, trivial⟩, trivial⟩ ?_
                            refine T_cond false (by kernel_rfl) (fun h => absurd (h.symm.trans rfl) (by decide)) (fun _ => ?_)
                            refine T_skip ?_
                            refine T_regE [{ d := some (I ((k + 1 : Nat) : Int)) }] (mk 88 [(1, (.one (.ref 1 0))), (50, (dt (.sl 2 (f.t.map encTrain)))), (51, (dt (I ((f.t.length : Nat) : Int)))), (52, (dt (I ((k + 1 : Nat) : Int)))), (86, (dt (B false))), (87, (dt (I ((k + 1 : Nat) : Int))))] [(1, (.var [(.dat (I f.a)), (.dat (I f.p)), (.dat (I f.m)), (.dat (I f.s)), (.dat (.sl 2 (f.t.map encTrain)))]))]) (True ∧ (IntKind.i64.wrap (((k : Nat) : Int) + 1) = ((k + 1 : Nat) : Int)) ∧ True ∧ True ∧ True) (by kernel_rfl) ⟨trivial, (by rw [i64_wrap (by omega) (by omega)]; omega), trivial, trivial, trivial⟩ ?_
                            refine Exists.intro (k + 1, x75) ⟨⟨by omega, trOK_step iv hx76 (by first | (simp only [decide_eq_true_eq, decide_eq_false_iff_not] at *; omega) | omega | (simp only [decide_eq_true_eq, decide_eq_false_iff_not] at *; by_cases hk : k = 0 <;> first | omega | (have := ip hk; omega))), fun h => by omega, fun _ => by simpa using hx76, trivial⟩, by first | omega | (dsimp only; omega), le_turn [] [1, 50, 51, 52] [] (by kernel_rfl)⟩
                  · skip
                    have g94 : ¬ (((k : Nat) : Int) < ((f.t.length : Nat) : Int)) := of_decide_eq_false (h72)
                    refine T_exit ?_
                    refine T_reg [] [2] [1] (mk 88 [(2, (dt (I 0)))] []) (True ∧ True ∧ True) (by kernel_rfl) ⟨trivial, trivial, trivial⟩ ?_
                    refine T_ret ?_
                    exact ret_here [(dt (I 0))] (by kernel_rfl) (.inl (congrArg I (by first | exact chk_bad (by unfold headOK; simp only [decide_eq_true_eq, decide_eq_false_iff_not] at *; omega) | exact chk_bad2 (trOK_stop iv (by assumption) (by first | (simp only [decide_eq_true_eq, decide_eq_false_iff_not] at *; omega) | omega | (simp only [decide_eq_true_eq, decide_eq_false_iff_not] at *; by_cases hk : k = 0 <;> first | omega | (have := ip hk; omega)))) | exact chk_ok (by unfold headOK; simp only [decide_eq_true_eq, decide_eq_false_iff_not] at *; omega) (trOK_end iv (by omega)) : 0 = (chk f))))
    · skip
      have g95 : f.m ≠ (-1) := ne_of_beq_false (h46)
      refine T_reg [{}, {}, { d := some (B (decide (0 ≤ f.m ∧ f.m < 192))) }, {}, {}, {}, {}, {}, { g := false }, { g := false }, { g := false }, { d := some (B false) }, { d := some (B false) }] [1, 3] [] (mk 88 [(1, (.one (.ref 1 0))), (3, (dt (B false)))] [(1, (.var [(.dat (I f.a)), (.dat (I f.p)), (.dat (I f.m)), (.dat (I f.s)), (.dat (.sl 2 (f.t.map encTrain)))]))]) (True ∧ True ∧ True ∧ True ∧ True ∧ (Ret Try.prog 49 [(I f.m)] (B (decide (0 ≤ f.m ∧ f.m < 192)))) ∧ True ∧ True ∧ (((decide (0 ≤ f.m ∧ f.m < 192)) == false) = true) ∧ True ∧ (((decide (0 ≤ f.m ∧ f.m < 192)) == false) = true) ∧ True ∧ (((decide (0 ≤ f.m ∧ f.m < 192)) == false) = true) ∧ True ∧ (((decide (0 ≤ f.m ∧ f.m < 192)) == false) = true) ∧ True ∧ (((f.m == (-1)) == true) = false) ∧ (((f.m == (-1)) == true) = false) ∧ (((f.m == (-1)) == true) = false) ∧ (((decide (0 ≤ f.m ∧ f.m < 192)) == false) = true) ∧ ((f.m == (-1)) = false) ∧ True ∧ ((decide (0 ≤ f.m ∧ f.m < 192)) = false) ∧ True ∧ True ∧ True) (by kernel_rfl) ⟨trivial, trivial, trivial, trivial, trivial, (ret_isClub _), trivial, trivial, (by rw [show (decide (0 ≤ f.m ∧ f.m < 192)) = false from h1]; rfl), trivial, (by rw [show (decide (0 ≤ f.m ∧ f.m < 192)) = false from h1]; rfl), trivial, (by rw [show (decide (0 ≤ f.m ∧ f.m < 192)) = false from h1]; rfl), trivial, (by rw [show (decide (0 ≤ f.m ∧ f.m < 192)) = false from h1]; rfl), trivial, (by rw [show (f.m == (-1)) = false from h46]; rfl), (by rw [show (f.m == (-1)) = false from h46]; rfl), (by rw [show (f.m == (-1)) = false from h46]; rfl), (by rw [show (decide (0 ≤ f.m ∧ f.m < 192)) = false from h1]; rfl), h46, trivial, h1, trivial, trivial, trivial⟩ ?_
      refine T_seq ?_
      rcases Bool.eq_false_or_eq_true (!(decide (0 ≤ f.a ∧ f.a ≤ 1125899906842624))) with h96 | h96
      · skip
        have n97 : (decide (0 ≤ f.a ∧ f.a ≤ 1125899906842624)) = false := not_t h96
        have g98 : ¬ (0 ≤ f.a ∧ f.a ≤ 1125899906842624) := of_decide_eq_false (n97)
        refine T_reg [{}, {}, { d := some (B (decide (0 ≤ f.a ∧ f.a ≤ 1125899906842624))) }, {}, {}, { g := false }, { g := false }, { g := false }, { g := false }, { d := some (B true) }, {}, { g := false }, { g := false }, { d := some (B true) }, {}, { g := false }, { g := false }, { g := false }, { d := some (B true) }, {}, { g := false }, { g := false }, { g := false }, { d := some (B true) }, {}, { g := false }, { g := false }, { g := false }, { g := false }, { d := some (B true) }] [1, 48] [] (mk 88 [(1, (.one (.ref 1 0))), (48, (dt (B true)))] [(1, (.var [(.dat (I f.a)), (.dat (I f.p)), (.dat (I f.m)), (.dat (I f.s)), (.dat (.sl 2 (f.t.map encTrain)))]))]) (True ∧ True ∧ True ∧ True ∧ True ∧ (Ret Try.prog 74 [(I f.a)] (B (decide (0 ≤ f.a ∧ f.a ≤ 1125899906842624)))) ∧ True ∧ True ∧ True ∧ True ∧ (((!(decide (0 ≤ f.a ∧ f.a ≤ 1125899906842624))) == false) = false) ∧ (((!(decide (0 ≤ f.a ∧ f.a ≤ 1125899906842624))) == false) = false) ∧ (((!(decide (0 ≤ f.a ∧ f.a ≤ 1125899906842624))) == false) = false) ∧ (((!(decide (0 ≤ f.a ∧ f.a ≤ 1125899906842624))) == false) = false) ∧ True ∧ ((!(decide (0 ≤ f.a ∧ f.a ≤ 1125899906842624))) = true) ∧ True ∧ True ∧ ((true == false) = false) ∧ ((true == false) = false) ∧ True ∧ (true = true) ∧ True ∧ True ∧ ((true == false) = false) ∧ ((true == false) = false) ∧ ((true == false) = false) ∧ True ∧ (true = true) ∧ True ∧ True ∧ ((true == false) = false) ∧ ((true == false) = false) ∧ ((true == false) = false) ∧ True ∧ (true = true) ∧ True ∧ True ∧ ((true == false) = false) ∧ ((true == false) = false) ∧ ((true == false) = false) ∧ ((true == false) = false) ∧ True ∧ (true = true) ∧ True) (by kernel_rfl) ⟨trivial, trivial, trivial, trivial, trivial, (ret_isAmt _), trivial, trivial, trivial, trivial, (by rw [show (!(decide (0 ≤ f.a ∧ f.a ≤ 1125899906842624))) = true from h96]; rfl), (by rw [show (!(decide (0 ≤ f.a ∧ f.a ≤ 1125899906842624))) = true from h96]; rfl), (by rw [show (!(decide (0 ≤ f.a ∧ f.a ≤ 1125899906842624))) = true from h96]; rfl), (by rw [show (!(decide (0 ≤ f.a ∧ f.a ≤ 1125899906842624))) = true from h96]; rfl), trivial, h96, trivial, trivial, (by rw [show true = true from rfl]; rfl), (by rw [show true = true from rfl]; rfl), trivial, rfl, trivial, trivial, (by rw [show true = true from rfl]; rfl), (by rw [show true = true from rfl]; rfl), (by rw [show true = true from rfl]; rfl), trivial, rfl, trivial, trivial, (by rw [show true = true from rfl]; rfl), (by rw [show true = true from rfl]; rfl), (by rw [show true = true from rfl]; rfl), trivial, rfl, trivial, trivial, (by rw [show true = true from rfl]; rfl), (by rw [show true = true from rfl]; rfl), (by rw [show true = true from rfl]; rfl), (by rw [show true = true from rfl]; rfl), trivial, rfl, trivial⟩ ?_
        refine T_cond true (by kernel_rfl) (fun _ => ?_) (fun h => absurd (h.symm.trans rfl) (by decide))
        refine T_reg [] [2] [1] (mk 88 [(2, (dt (I 380)))] []) (True ∧ True ∧ True) (by kernel_rfl) ⟨trivial, trivial, trivial⟩ ?_
        refine T_ret ?_
        exact ret_here [(dt (I 380))] (by kernel_rfl) (.inl (congrArg I (by first | exact chk_bad (by unfold headOK; simp only [decide_eq_true_eq, decide_eq_false_iff_not] at *; omega) | exact chk_bad2 (trOK_stop iv (by assumption) (by first | (simp only [decide_eq_true_eq, decide_eq_false_iff_not] at *; omega) | omega | (simp only [decide_eq_true_eq, decide_eq_false_iff_not] at *; by_cases hk : k = 0 <;> first | omega | (have := ip hk; omega)))) | exact chk_ok (by unfold headOK; simp only [decide_eq_true_eq, decide_eq_false_iff_not] at *; omega) (trOK_end iv (by omega)) : 380 = (chk f))))
      · skip
        have n99 : (decide (0 ≤ f.a ∧ f.a ≤ 1125899906842624)) = true := not_f h96
        have g100 : (0 ≤ f.a ∧ f.a ≤ 1125899906842624) := of_decide_eq_true (n99)
        rcases Bool.eq_false_or_eq_true (!(decide (0 ≤ f.p ∧ f.p ≤ 1125899906842624))) with h101 | h101
        · skip
          have n102 : (decide (0 ≤ f.p ∧ f.p ≤ 1125899906842624)) = false := not_t h101
          have g103 : ¬ (0 ≤ f.p ∧ f.p ≤ 1125899906842624) := of_decide_eq_false (n102)
          refine T_reg [{}, {}, { d := some (B (decide (0 ≤ f.a ∧ f.a ≤ 1125899906842624))) }, {}, {}, {}, {}, { d := some (B (decide (0 ≤ f.p ∧ f.p ≤ 1125899906842624))) }, {}, { d := some (B false) }, {}, { g := false }, { g := false }, { d := some (B true) }, {}, { g := false }, { g := false }, { g := false }, { d := some (B true) }, {}, { g := false }, { g := false }, { g := false }, { d := some (B true) }, {}, { g := false }, { g := false }, { g := false }, { g := false }, { d := some (B true) }] [1, 48] [] (mk 88 [(1, (.one (.ref 1 0))), (48, (dt (B true)))] [(1, (.var [(.dat (I f.a)), (.dat (I f.p)), (.dat (I f.m)), (.dat (I f.s)), (.dat (.sl 2 (f.t.map encTrain)))]))]) (True ∧ True ∧ True ∧ True ∧ True ∧ (Ret Try.prog 74 [(I f.a)] (B (decide (0 ≤ f.a ∧ f.a ≤ 1125899906842624)))) ∧ True ∧ True ∧ True ∧ True ∧ (((!(decide (0 ≤ f.a ∧ f.a ≤ 1125899906842624))) == false) = true) ∧ True ∧ (((!(decide (0 ≤ f.a ∧ f.a ≤ 1125899906842624))) == false) = true) ∧ True ∧ (((!(decide (0 ≤ f.a ∧ f.a ≤ 1125899906842624))) == false) = true) ∧ (Ret Try.prog 74 [(I f.p)] (B (decide (0 ≤ f.p ∧ f.p ≤ 1125899906842624)))) ∧ (((!(decide (0 ≤ f.a ∧ f.a ≤ 1125899906842624))) == false) = true) ∧ True ∧ True ∧ ((!(decide (0 ≤ f.a ∧ f.a ≤ 1125899906842624))) = false) ∧ True ∧ True ∧ (((!(decide (0 ≤ f.p ∧ f.p ≤ 1125899906842624))) == false) = false) ∧ (((!(decide (0 ≤ f.p ∧ f.p ≤ 1125899906842624))) == false) = false) ∧ True ∧ ((!(decide (0 ≤ f.p ∧ f.p ≤ 1125899906842624))) = true) ∧ True ∧ True ∧ ((true == false) = false) ∧ ((true == false) = false) ∧ ((true == false) = false) ∧ True ∧ (true = true) ∧ True ∧ True ∧ ((true == false) = false) ∧ ((true == false) = false) ∧ ((true == false) = false) ∧ True ∧ (true = true) ∧ True ∧ True ∧ ((true == false) = false) ∧ ((true == false) = false) ∧ ((true == false) = false) ∧ ((true == false) = false) ∧ True ∧ (true = true) ∧ True) (by kernel_rfl) ⟨trivial, trivial, trivial, trivial, trivial, (ret_isAmt _), trivial, trivial, trivial, trivial, (by rw [show (!(decide (0 ≤ f.a ∧ f.a ≤ 1125899906842624))) = false from h96]; rfl), trivial, (by rw [show (!(decide (0 ≤ f.a ∧ f.a ≤ 1125899906842624))) = false from h96]; rfl), trivial, (by rw [show (!(decide (0 ≤ f.a ∧ f.a ≤ 1125899906842624))) = false from h96]; rfl), (ret_isAmt _), (by rw [show (!(decide (0 ≤ f.a ∧ f.a ≤ 1125899906842624))) = false from h96]; rfl), trivial, trivial, h96, trivial, trivial, (by rw [show (!(decide (0 ≤ f.p ∧ f.p ≤ 1125899906842624))) = true from h101]; rfl), (by rw [show (!(decide (0 ≤ f.p ∧ f.p ≤ 1125899906842624))) = true from h101]; rfl), trivial, h101, trivial, trivial, (by rw [show true = true from rfl]; rfl), (by rw [show true = true from rfl]; rfl), (by rw [show true = true from rfl]; rfl), trivial, rfl, trivial, trivial, (by rw [show true = true from rfl]; rfl), (by rw [show true = true from rfl]; rfl), (by rw [show true = true from rfl]; rfl), trivial, rfl, trivial, trivial, (by rw [show true = true from rfl]; rfl), (by rw [show true = true from rfl]; rfl), (by rw [show true = true from rfl]; rfl), (by rw [show true = true from rfl]; rfl), trivial, rfl, trivial⟩ ?_
          refine T_cond true (by kernel_rfl) (fun _ => ?_) (fun h => absurd (h.symm.trans rfl) (by decide))
          refine T_reg [] [2] [1] (mk 88 [(2, (dt (I 380)))] []) (True ∧ True ∧ True) (by kernel_rfl) ⟨trivial, trivial, trivial⟩ ?_
          refine T_ret ?_
          exact ret_here [(dt (I 380))] (by kernel_rfl) (.inl (congrArg I (by first | exact chk_bad (by unfold headOK; simp only [decide_eq_true_eq, decide_eq_false_iff_not] at *; omega) | exact chk_bad2 (trOK_stop iv (by assumption) (by first | (simp only [decide_eq_true_eq, decide_eq_false_iff_not] at *; omega) | omega | (simp only [decide_eq_true_eq, decide_eq_false_iff_not] at *; by_cases hk : k = 0 <;> first | omega | (have := ip hk; omega)))) | exact chk_ok (by unfold headOK; simp only [decide_eq_true_eq, decide_eq_false_iff_not] at *; omega) (trOK_end iv (by omega)) : 380 = (chk f))))
        · skip
          have n104 : (decide (0 ≤ f.p ∧ f.p ≤ 1125899906842624)) = true := not_f h101
          have g105 : (0 ≤ f.p ∧ f.p ≤ 1125899906842624) := of_decide_eq_true (n104)
          refine T_reg [{}, {}, { d := some (B (decide (0 ≤ f.a ∧ f.a ≤ 1125899906842624))) }, {}, {}, {}, {}, { d := some (B (decide (0 ≤ f.p ∧ f.p ≤ 1125899906842624))) }, {}, { d := some (B false) }, {}, {}, {}, { d := some (B false) }, {}, { g := false }, { g := false }, { g := false }, { d := some (B true) }, {}, { g := false }, { g := false }, { g := false }, { d := some (B true) }, {}, { g := false }, { g := false }, { g := false }, { g := false }, { d := some (B true) }] [1, 48] [] (mk 88 [(1, (.one (.ref 1 0))), (48, (dt (B true)))] [(1, (.var [(.dat (I f.a)), (.dat (I f.p)), (.dat (I f.m)), (.dat (I f.s)), (.dat (.sl 2 (f.t.map encTrain)))]))]) (True ∧ True ∧ True ∧ True ∧ True ∧ (Ret Try.prog 74 [(I f.a)] (B (decide (0 ≤ f.a ∧ f.a ≤ 1125899906842624)))) ∧ True ∧ True ∧ True ∧ True ∧ (((!(decide (0 ≤ f.a ∧ f.a ≤ 1125899906842624))) == false) = true) ∧ True ∧ (((!(decide (0 ≤ f.a ∧ f.a ≤ 1125899906842624))) == false) = true) ∧ True ∧ (((!(decide (0 ≤ f.a ∧ f.a ≤ 1125899906842624))) == false) = true) ∧ (Ret Try.prog 74 [(I f.p)] (B (decide (0 ≤ f.p ∧ f.p ≤ 1125899906842624)))) ∧ (((!(decide (0 ≤ f.a ∧ f.a ≤ 1125899906842624))) == false) = true) ∧ True ∧ True ∧ ((!(decide (0 ≤ f.a ∧ f.a ≤ 1125899906842624))) = false) ∧ True ∧ True ∧ (((!(decide (0 ≤ f.p ∧ f.p ≤ 1125899906842624))) == false) = true) ∧ True ∧ (((!(decide (0 ≤ f.p ∧ f.p ≤ 1125899906842624))) == false) = true) ∧ True ∧ True ∧ ((!(decide (0 ≤ f.p ∧ f.p ≤ 1125899906842624))) = false) ∧ True ∧ True ∧ ((true == false) = false) ∧ ((true == false) = false) ∧ ((true == false) = false) ∧ True ∧ (true = true) ∧ True ∧ True ∧ ((true == false) = false) ∧ ((true == false) = false) ∧ ((true == false) = false) ∧ True ∧ (true = true) ∧ True ∧ True ∧ ((true == false) = false) ∧ ((true == false) = false) ∧ ((true == false) = false) ∧ ((true == false) = false) ∧ True ∧ (true = true) ∧ True) (by kernel_rfl) ⟨trivial, trivial, trivial, trivial, trivial, (ret_isAmt _), trivial, trivial, trivial, trivial, (by rw [show (!(decide (0 ≤ f.a ∧ f.a ≤ 1125899906842624))) = false from h96]; rfl), trivial, (by rw [show (!(decide (0 ≤ f.a ∧ f.a ≤ 1125899906842624))) = false from h96]; rfl), trivial, (by rw [show (!(decide (0 ≤ f.a ∧ f.a ≤ 1125899906842624))) = false from h96]; rfl), (ret_isAmt _), (by rw [show (!(decide (0 ≤ f.a ∧ f.a ≤ 1125899906842624))) = false from h96]; rfl), trivial, trivial, h96, trivial, trivial, (by rw [show (!(decide (0 ≤ f.p ∧ f.p ≤ 1125899906842624))) = false from h101]; rfl), trivial, (by rw [show (!(decide (0 ≤ f.p ∧ f.p ≤ 1125899906842624))) = false from h101]; rfl), trivial, trivial, h101, trivial, trivial, (by rw [show true = true from rfl]; rfl), (by rw [show true = true from rfl]; rfl), (by rw [show true = true from rfl]; rfl), trivial, rfl, trivial, trivial, (by rw [show true = true from rfl]; rfl), (by rw [show true = true from rfl]; rfl), (by rw [show true = true from rfl]; rfl), trivial, rfl, trivial, trivial, (by rw [show true = true from rfl]; rfl), (by rw [show true = true from rfl]; rfl), (by rw [show true = true from rfl]; rfl), (by rw [show true = true from rfl]; rfl), trivial, rfl, trivial⟩ ?_
          refine T_cond true (by kernel_rfl) (fun _ => ?_) (fun h => absurd (h.symm.trans rfl) (by decide))
          refine T_reg [] [2] [1] (mk 88 [(2, (dt (I 380)))] []) (True ∧ True ∧ True) (by kernel_rfl) ⟨trivial, trivial, trivial⟩ ?_
          refine T_ret ?_
          exact ret_here [(dt (I 380))] (by kernel_rfl) (.inl (congrArg I (by first | exact chk_bad (by unfold headOK; simp only [decide_eq_true_eq, decide_eq_false_iff_not] at *; omega) | exact chk_bad2 (trOK_stop iv (by assumption) (by first | (simp only [decide_eq_true_eq, decide_eq_false_iff_not] at *; omega) | omega | (simp only [decide_eq_true_eq, decide_eq_false_iff_not] at *; by_cases hk : k = 0 <;> first | omega | (have := ip hk; omega)))) | exact chk_ok (by unfold headOK; simp only [decide_eq_true_eq, decide_eq_false_iff_not] at *; omega) (trOK_end iv (by omega)) : 380 = (chk f))))

theorem ret_solid (f : Fee) (ht : f.t.length ≤ 140737488355328) : Ret Try.prog 65 [(.agg [(I f.a), (I f.p), (I f.m), (I f.s), (.sl 2 (f.t.map encTrain))])] (I (solid f)) := by
  refine Ret.of_T Try.func65 (by kernel_rfl) rfl ?_
  refine T_turn [] [0] [] (mk 16 [(0, (.agg [(.dat (I f.a)), (.dat (I f.p)), (.dat (I f.m)), (.dat (I f.s)), (.dat (.sl 2 (f.t.map encTrain)))]))] []) (by kernel_rfl) ?_
  refine T_reg [] [1] [] (mk 16 [(1, (.one (.ref 1 0)))] [(1, (.var [(.dat (I f.a)), (.dat (I f.p)), (.dat (I f.m)), (.dat (I f.s)), (.dat (.sl 2 (f.t.map encTrain)))]))]) (True ∧ True ∧ True ∧ True ∧ True) (by kernel_rfl) ⟨trivial, trivial, trivial, trivial, trivial⟩ ?_
  refine T_seq ?_
  refine T_reg [{}, {}, { d := some (I ((f.t.length : Nat) : Int)) }] [1, 8] [] (mk 16 [(1, (.one (.ref 1 0))), (8, (dt (B (((f.t.length : Nat) : Int) == 0))))] [(1, (.var [(.dat (I f.a)), (.dat (I f.p)), (.dat (I f.m)), (.dat (I f.s)), (.dat (.sl 2 (f.t.map encTrain)))]))]) (True ∧ True ∧ True ∧ True ∧ True ∧ (True ∧ D.int .i64 ((f.t.map encTrain).length : Int) = (I ((f.t.length : Nat) : Int))) ∧ True ∧ True ∧ True) (by kernel_rfl) ⟨trivial, trivial, trivial, trivial, trivial, ⟨trivial, by rw [List.length_map]⟩, trivial, trivial, trivial⟩ ?_
  refine T_cond (((f.t.length : Nat) : Int) == 0) (by kernel_rfl) (fun h1 => ?_) (fun h1 => ?_)
  · skip
    have g2 : ((f.t.length : Nat) : Int) = 0 := eq_of_beq (h1)
    refine T_reg [] [2] [1] (mk 16 [(2, (dt (I 0)))] []) (True ∧ True ∧ True) (by kernel_rfl) ⟨trivial, trivial, trivial⟩ ?_
    refine T_ret ?_
    exact ret_here [(dt (I 0))] (by kernel_rfl) (.inl (congrArg I (by first | (rw [solid, if_pos (by omega)]; done) | (rw [solid, if_neg (by omega)]; done) : 0 = (solid f))))
  · skip
    have g3 : ((f.t.length : Nat) : Int) ≠ 0 := ne_of_beq_false (h1)
    refine T_skip ?_
    refine T_reg [{}, {}, { d := some (.tup [(I (partM f.a 50).1), (I (partM f.a 50).2)]) }] [3] [1] (mk 16 [(3, (dt (I (partM f.a 50).1)))] []) (True ∧ True ∧ True ∧ True ∧ True ∧ (Ret Try.prog 66 [(I f.a), (I 50)] (.tup [(I (partM f.a 50).1), (I (partM f.a 50).2)])) ∧ True ∧ True ∧ True ∧ True ∧ True ∧ True ∧ True ∧ True ∧ True ∧ True ∧ True) (by kernel_rfl) ⟨trivial, trivial, trivial, trivial, trivial, (ret_partM _ _), trivial, trivial, trivial, trivial, trivial, trivial, trivial, trivial, trivial, trivial, trivial⟩ ?_
    refine T_reg [] [2] [] (mk 16 [(2, (dt (I (partM f.a 50).1)))] []) (True ∧ True ∧ True ∧ True ∧ True) (by kernel_rfl) ⟨trivial, trivial, trivial, trivial, trivial⟩ ?_
    refine T_ret ?_
    exact ret_here [(dt (I (partM f.a 50).1))] (by kernel_rfl) (.inl (congrArg I (by first | (rw [solid, if_pos (by omega)]; done) | (rw [solid, if_neg (by omega)]; done) : (partM f.a 50).1 = (solid f))))

theorem ret_profit (f : Fee) (ht : f.t.length ≤ 140737488355328) : Ret Try.prog 50 [(.agg [(I f.a), (I f.p), (I f.m), (I f.s), (.sl 2 (f.t.map encTrain))])] (.tup [(I (profit f).1), (I (profit f).2)]) := by
  have hc := chk_cases f
  refine Ret.of_T Try.func50 (by kernel_rfl) rfl ?_
  refine T_turn [] [0] [] (mk 29 [(0, (.agg [(.dat (I f.a)), (.dat (I f.p)), (.dat (I f.m)), (.dat (I f.s)), (.dat (.sl 2 (f.t.map encTrain)))]))] []) (by kernel_rfl) ?_
  refine T_reg [] [1] [] (mk 29 [(1, (.one (.ref 1 0)))] [(1, (.var [(.dat (I f.a)), (.dat (I f.p)), (.dat (I f.m)), (.dat (I f.s)), (.dat (.sl 2 (f.t.map encTrain)))]))]) (True ∧ True ∧ True ∧ True ∧ True ∧ True ∧ True) (by kernel_rfl) ⟨trivial, trivial, trivial, trivial, trivial, trivial, trivial⟩ ?_
  refine T_seq ?_
  refine T_reg [{}, { d := some (I (chk f)) }] [1, 4] [] (mk 29 [(1, (.one (.ref 1 0))), (4, (dt (I (chk f))))] [(1, (.var [(.dat (I f.a)), (.dat (I f.p)), (.dat (I f.m)), (.dat (I f.s)), (.dat (.sl 2 (f.t.map encTrain)))]))]) (True ∧ True ∧ True ∧ (Ret Try.prog 63 [(.agg [(I f.a), (I f.p), (I f.m), (I f.s), (.sl 2 (f.t.map encTrain))])] (I (chk f))) ∧ True ∧ True ∧ True) (by kernel_rfl) ⟨trivial, trivial, trivial, (ret_chk f ht), trivial, trivial, trivial⟩ ?_
  rcases Bool.eq_false_or_eq_true ((chk f) != 0) with h1 | h1
  · skip
    have g2 : (chk f) ≠ 0 := bne_iff_ne.1 (h1)
    refine T_reg [{}, {}, {}, { g := false }, { g := false }, { g := false }, { d := some (B true) }] [1, 4, 13] [] (mk 29 [(1, (.one (.ref 1 0))), (4, (dt (I (chk f)))), (13, (dt (B true)))] [(1, (.var [(.dat (I f.a)), (.dat (I f.p)), (.dat (I f.m)), (.dat (I f.s)), (.dat (.sl 2 (f.t.map encTrain)))]))]) (True ∧ True ∧ True ∧ True ∧ True ∧ True ∧ ((((chk f) != 0) == false) = false) ∧ ((((chk f) != 0) == false) = false) ∧ ((((chk f) != 0) == false) = false) ∧ True ∧ (((chk f) != 0) = true) ∧ True) (by kernel_rfl) ⟨trivial, trivial, trivial, trivial, trivial, trivial, (by rw [show ((chk f) != 0) = true from h1]; rfl), (by rw [show ((chk f) != 0) = true from h1]; rfl), (by rw [show ((chk f) != 0) = true from h1]; rfl), trivial, h1, trivial⟩ ?_
    refine T_cond true (by kernel_rfl) (fun _ => ?_) (fun h => absurd (h.symm.trans rfl) (by decide))
    refine T_reg [] [2, 3] [1] (mk 29 [(2, (dt (I 0))), (3, (dt (I (chk f))))] []) (True ∧ True ∧ True ∧ True ∧ True ∧ True ∧ True) (by kernel_rfl) ⟨trivial, trivial, trivial, trivial, trivial, trivial, trivial⟩ ?_
    refine T_ret ?_
    exact ret_here [(dt (I 0)), (dt (I (chk f)))] (by kernel_rfl) ⟨(.inl (congrArg I (by first | (rw [profit, if_pos (by omega)]; done) | (rw [profit, if_pos (by omega)]; show _ = chk f; omega; done) | (rw [profit, if_neg (by omega), if_pos (by have := solid_bounds f (by omega); omega)]; done) | (rw [profit, if_neg (by omega), if_pos (by have := solid_bounds f (by omega); omega)]; show _ = (0 : Int); omega; done) | (rw [profit, if_neg (by omega), if_neg (by omega)]; done) | (rw [profit, if_neg (by omega), if_neg (by omega), partM_two (by have := solid_bounds f (by omega); omega) (by have := solid_bounds f (by omega); omega) (by have := solid_bounds f (by omega); omega) (by have := solid_bounds f (by omega); omega)]; done) | (exact congrArg Prod.fst (profit_max (by omega) (by omega)); done) | (exact congrArg Prod.snd (profit_max (by omega) (by omega)); done) : 0 = (profit f).1))), (.inl (congrArg I (by first | (rw [profit, if_pos (by omega)]; done) | (rw [profit, if_pos (by omega)]; show _ = chk f; omega; done) | (rw [profit, if_neg (by omega), if_pos (by have := solid_bounds f (by omega); omega)]; done) | (rw [profit, if_neg (by omega), if_pos (by have := solid_bounds f (by omega); omega)]; show _ = (0 : Int); omega; done) | (rw [profit, if_neg (by omega), if_neg (by omega)]; done) | (rw [profit, if_neg (by omega), if_neg (by omega), partM_two (by have := solid_bounds f (by omega); omega) (by have := solid_bounds f (by omega); omega) (by have := solid_bounds f (by omega); omega) (by have := solid_bounds f (by omega); omega)]; done) | (exact congrArg Prod.fst (profit_max (by omega) (by omega)); done) | (exact congrArg Prod.snd (profit_max (by omega) (by omega)); done) : (chk f) = (profit f).2))), trivial⟩
  · skip
    have g3 : (chk f) = 0 := bne_f (h1)
    refine T_reg [{}, {}, {}, {}, {}, {}, { d := some (B false) }] [1, 4, 13] [] (mk 29 [(1, (.one (.ref 1 0))), (4, (dt (I (chk f)))), (13, (dt (B (f.m == (-1)))))] [(1, (.var [(.dat (I f.a)), (.dat (I f.p)), (.dat (I f.m)), (.dat (I f.s)), (.dat (.sl 2 (f.t.map encTrain)))]))]) (True ∧ True ∧ True ∧ True ∧ True ∧ True ∧ ((((chk f) != 0) == false) = true) ∧ True ∧ ((((chk f) != 0) == false) = true) ∧ True ∧ ((((chk f) != 0) == false) = true) ∧ True ∧ True ∧ (((chk f) != 0) = false) ∧ True) (by kernel_rfl) ⟨trivial, trivial, trivial, trivial, trivial, trivial, (by rw [show ((chk f) != 0) = false from h1]; rfl), trivial, (by rw [show ((chk f) != 0) = false from h1]; rfl), trivial, (by rw [show ((chk f) != 0) = false from h1]; rfl), trivial, trivial, h1, trivial⟩ ?_
    refine T_cond (f.m == (-1)) (by kernel_rfl) (fun h4 => ?_) (fun h4 => ?_)
    · skip
      have g5 : f.m = (-1) := eq_of_beq (h4)
      refine T_reg [] [2, 3] [1] (mk 29 [(2, (dt (I 0))), (3, (dt (I (chk f))))] []) (True ∧ True ∧ True ∧ True ∧ True ∧ True ∧ True) (by kernel_rfl) ⟨trivial, trivial, trivial, trivial, trivial, trivial, trivial⟩ ?_
      refine T_ret ?_
      exact ret_here [(dt (I 0)), (dt (I (chk f)))] (by kernel_rfl) ⟨(.inl (congrArg I (by first | (rw [profit, if_pos (by omega)]; done) | (rw [profit, if_pos (by omega)]; show _ = chk f; omega; done) | (rw [profit, if_neg (by omega), if_pos (by have := solid_bounds f (by omega); omega)]; done) | (rw [profit, if_neg (by omega), if_pos (by have := solid_bounds f (by omega); omega)]; show _ = (0 : Int); omega; done) | (rw [profit, if_neg (by omega), if_neg (by omega)]; done) | (rw [profit, if_neg (by omega), if_neg (by omega), partM_two (by have := solid_bounds f (by omega); omega) (by have := solid_bounds f (by omega); omega) (by have := solid_bounds f (by omega); omega) (by have := solid_bounds f (by omega); omega)]; done) | (exact congrArg Prod.fst (profit_max (by omega) (by omega)); done) | (exact congrArg Prod.snd (profit_max (by omega) (by omega)); done) : 0 = (profit f).1))), (.inl (congrArg I (by first | (rw [profit, if_pos (by omega)]; done) | (rw [profit, if_pos (by omega)]; show _ = chk f; omega; done) | (rw [profit, if_neg (by omega), if_pos (by have := solid_bounds f (by omega); omega)]; done) | (rw [profit, if_neg (by omega), if_pos (by have := solid_bounds f (by omega); omega)]; show _ = (0 : Int); omega; done) | (rw [profit, if_neg (by omega), if_neg (by omega)]; done) | (rw [profit, if_neg (by omega), if_neg (by omega), partM_two (by have := solid_bounds f (by omega); omega) (by have := solid_bounds f (by omega); omega) (by have := solid_bounds f (by omega); omega) (by have := solid_bounds f (by omega); omega)]; done) | (exact congrArg Prod.fst (profit_max (by omega) (by omega)); done) | (exact congrArg Prod.snd (profit_max (by omega) (by omega)); done) : (chk f) = (profit f).2))), trivial⟩
    · skip
      have g6 : f.m ≠ (-1) := ne_of_beq_false (h4)
      refine T_skip ?_
      refine T_regD 16 [{}, {}, {}, { d := some (I (solid f)) }, { d := some (I (f.a - (solid f))) }, {}, {}, { d := some (I ((f.a - (solid f)) - f.p)) }, {}, {}, {}, { d := some (.tup [(I (partM (if ((f.a - (solid f)) - f.p) > 0 then ((f.a - (solid f)) - f.p) else 0) f.s).1), (I (partM (if ((f.a - (solid f)) - f.p) > 0 then ((f.a - (solid f)) - f.p) else 0) f.s).2)]) }] [2, 3] [1] (mk 29 [(2, (dt (I (partM (if ((f.a - (solid f)) - f.p) > 0 then ((f.a - (solid f)) - f.p) else 0) f.s).1))), (3, (dt (I (partM (if ((f.a - (solid f)) - f.p) > 0 then ((f.a - (solid f)) - f.p) else 0) f.s).2)))] []) ((True ∧ True ∧ True ∧ True ∧ True ∧ True ∧ True ∧ (Ret Try.prog 65 [(.agg [(I f.a), (I f.p), (I f.m), (I f.s), (.sl 2 (f.t.map encTrain))])] (I (solid f))) ∧ True ∧ (IntKind.i64.wrap (f.a - (solid f)) = (f.a - (solid f))) ∧ True ∧ True ∧ True ∧ True ∧ True ∧ (IntKind.i64.wrap ((f.a - (solid f)) - f.p) = ((f.a - (solid f)) - f.p)) ∧ True ∧ True ∧ True ∧ True ∧ True ∧ True ∧ True ∧ (Ret Try.prog 66 [(I (if ((f.a - (solid f)) - f.p) > 0 then ((f.a - (solid f)) - f.p) else 0)), (I f.s)] (.tup [(I (partM (if ((f.a - (solid f)) - f.p) > 0 then ((f.a - (solid f)) - f.p) else 0) f.s).1), (I (partM (if ((f.a - (solid f)) - f.p) > 0 then ((f.a - (solid f)) - f.p) else 0) f.s).2)])) ∧ True ∧ True ∧ True ∧ True ∧ True ∧ True ∧ True ∧ True ∧ True) ∧ True) (by kernel_rfl) (by kernel_rfl) (by kernel_rfl) ⟨⟨trivial, trivial, trivial, trivial, trivial, trivial, trivial, (ret_solid f ht), trivial, (i64_wrap (by have := solid_bounds f (by omega); omega) (by have := solid_bounds f (by omega); omega)), trivial, trivial, trivial, trivial, trivial, (i64_wrap (by have := solid_bounds f (by omega); omega) (by have := solid_bounds f (by omega); omega)), trivial, trivial, trivial, trivial, trivial, trivial, trivial, (ret_partM _ _), trivial, trivial, trivial, trivial, trivial, trivial, trivial, trivial, trivial⟩, trivial⟩ ?_
      refine T_ret ?_
      exact ret_here [(dt (I (partM (if ((f.a - (solid f)) - f.p) > 0 then ((f.a - (solid f)) - f.p) else 0) f.s).1)), (dt (I (partM (if ((f.a - (solid f)) - f.p) > 0 then ((f.a - (solid f)) - f.p) else 0) f.s).2))] (by kernel_rfl) ⟨(.inl (congrArg I (by first | (rw [profit, if_pos (by omega)]; done) | (rw [profit, if_pos (by omega)]; show _ = chk f; omega; done) | (rw [profit, if_neg (by omega), if_pos (by have := solid_bounds f (by omega); omega)]; done) | (rw [profit, if_neg (by omega), if_pos (by have := solid_bounds f (by omega); omega)]; show _ = (0 : Int); omega; done) | (rw [profit, if_neg (by omega), if_neg (by omega)]; done) | (rw [profit, if_neg (by omega), if_neg (by omega), partM_two (by have := solid_bounds f (by omega); omega) (by have := solid_bounds f (by omega); omega) (by have := solid_bounds f (by omega); omega) (by have := solid_bounds f (by omega); omega)]; done) | (exact congrArg Prod.fst (profit_max (by omega) (by omega)); done) | (exact congrArg Prod.snd (profit_max (by omega) (by omega)); done) : (partM (if ((f.a - (solid f)) - f.p) > 0 then ((f.a - (solid f)) - f.p) else 0) f.s).1 = (profit f).1))), (.inl (congrArg I (by first | (rw [profit, if_pos (by omega)]; done) | (rw [profit, if_pos (by omega)]; show _ = chk f; omega; done) | (rw [profit, if_neg (by omega), if_pos (by have := solid_bounds f (by omega); omega)]; done) | (rw [profit, if_neg (by omega), if_pos (by have := solid_bounds f (by omega); omega)]; show _ = (0 : Int); omega; done) | (rw [profit, if_neg (by omega), if_neg (by omega)]; done) | (rw [profit, if_neg (by omega), if_neg (by omega), partM_two (by have := solid_bounds f (by omega); omega) (by have := solid_bounds f (by omega); omega) (by have := solid_bounds f (by omega); omega) (by have := solid_bounds f (by omega); omega)]; done) | (exact congrArg Prod.fst (profit_max (by omega) (by omega)); done) | (exact congrArg Prod.snd (profit_max (by omega) (by omega)); done) : (partM (if ((f.a - (solid f)) - f.p) > 0 then ((f.a - (solid f)) - f.p) else 0) f.s).2 = (profit f).2))), trivial⟩

end Go.Proofs.Ytpkbecaailhhmaa

/-
  money.parts's iterator: what it yields. Conditions: those of the theorem.
-/
set_option linter.unusedVariables false
set_option linter.unusedSimpArgs false
namespace Go.Proofs.Ytpkbecaailhhmaa
open Go.DL Go.RowKit Go.Shelf
attribute [local go_sem] Oper.semAt_some
set_option maxRecDepth 100000

theorem it3 : Try.prog.underlying 3 = some (TypeDesc.int IntKind.i64) := by kernel_rfl
theorem it22 : Try.prog.underlying 22 = some (TypeDesc.slice 3) := by kernel_rfl
theorem itmixed : Try.prog.follows .mixedOrders = true := by kernel_rfl

set_option maxHeartbeats 4000000 in
theorem parts_iter (a sum : Int) (ws : List Int) (hs : 0 < sum) (hs2 : sum ≤ 1000000) (ha : 0 ≤ a) (ha2 : a ≤ 1125899906842624) (hw : ∀ x ∈ ws, 0 ≤ x ∧ x ≤ 1000) (hl : ws.length ≤ 256) :
    Iter Try.prog 84 [.ptr [.sl 1 (ws.map encI)], .ptr [.int .i64 a], .ptr [.int .i64 sum]] valPart (partsOf a sum ws) := by
  refine ⟨enters_of Try.func84 (by kernel_rfl) rfl, ?_⟩
  intro w A lb hsz hcap l J hJK hJd hY W h0
  obtain ⟨v0, hv0, r0⟩ := hcap 0 _ rfl
  obtain ⟨v1, hv1, r1⟩ := hcap 1 _ rfl
  obtain ⟨v2, hv2, r2⟩ := hcap 2 _ rfl
  have hlb : lb = #[v0, v1, v2] := by
    apply Array.ext
    · simpa using hsz
    · intro i h1 h2
      simp only [List.length_cons, List.length_nil] at hsz
      match i, h1 with
      | 0, h1 => have := Array.getElem?_eq_getElem h1; rw [hv0] at this; simpa using (Option.some.inj this).symm
      | 1, h1 => have := Array.getElem?_eq_getElem h1; rw [hv1] at this; simpa using (Option.some.inj this).symm
      | 2, h1 => have := Array.getElem?_eq_getElem h1; rw [hv2] at this; simpa using (Option.some.inj this).symm
      | n + 3, h1 => omega
  subst hlb
  cases r0 with
  | ptr _ b0 o0 vs0 m0 q0 =>
  cases r1 with
  | ptr _ b1 o1 vs1 m1 q1 =>
  cases r2 with
  | ptr _ b2 o2 vs2 m2 q2 =>
  have c0 := m0 0 _ rfl
  have c1 := m1 0 _ rfl
  have c2 := m2 0 _ rfl
  have e0 := q0 0 _ rfl
  have e1 := relD_int (q1 0 _ rfl)
  have e2 := relD_int (q2 0 _ rfl)
  rw [e1] at c1
  rw [e2] at c2
  simp only [Nat.add_zero] at c0 c1 c2
  generalize vs0 0 = sv at c0 e0
  have g0 : ∀ pre W, J pre W → W.cell? ⟨b0, o0, none⟩ = some sv := fun pre W h => hJK pre W h _ _ _ c0.1 c0.2
  have g1 : ∀ pre W, J pre W → W.cell? ⟨b1, o1, none⟩ = some (.int .i64 a) := fun pre W h => hJK pre W h _ _ _ c1.1 c1.2
  have g2 : ∀ pre W, J pre W → W.cell? ⟨b2, o2, none⟩ = some (.int .i64 sum) := fun pre W h => hJK pre W h _ _ _ c2.1 c2.2
  have u3 := run_underlying (P := Try.prog) it3; have u22 := run_underlying (P := Try.prog) it22
  have mixed := itmixed
  -- the slice
  obtain ⟨ad, cap, hsv, hcell⟩ : ∃ (ad : Option Addr) (cap : Nat), sv = .slice ad ws.length cap ∧ ∀ k, k < ws.length → ∃ b off, ad = some ⟨b, off, none⟩ ∧ ∀ pre W, J pre W → W.cell? ⟨b, off + k, none⟩ = some (.int .i64 (ws.getD k 0)) := by
    generalize hes : ws.map encI = es at e0
    cases e0 with
    | sl _ _ b off cap vs hlen huni hmem hrel =>
      have hl' : es.length = ws.length := by rw [← hes, List.length_map]
      refine ⟨_, cap, by rw [hl'], fun k hk => ⟨b, off, rfl, fun pre W hJ => ?_⟩⟩
      have hfk : (flat es)[k]? = some (.int .i64 (ws.getD k 0)) := by
        have h1 : es[k]? = some (encI (ws.getD k 0)) := by rw [← hes, List.getElem?_map, List.getElem?_eq_getElem hk]; simp [List.getD, List.getElem?_eq_getElem hk]
        have := flat_get (sz := 1) huni h1 (j := 0) (c := .int .i64 (ws.getD k 0)) rfl
        simpa using this
      have h2 := hmem k _ hfk
      rw [relD_int (hrel k _ hfk)] at h2
      exact hJK pre W hJ _ _ _ h2.1 h2.2
    | sl0 _ ad cap _ =>
      have : ws = [] := by simpa using hes
      subst this
      exact ⟨ad, cap, rfl, fun k hk => by simp at hk⟩
  subst hsv
  have hg0 := g0 _ _ h0
  refine callsIn_of_wp Try.func84 rfl trivial ?_ rfl
  simp only [Try.ntmps84, List.size_toArray, List.length_cons, List.length_nil, Nat.reduceAdd, Nat.reduceSub, Array.replicate_succ, Array.replicate_zero, List.push_toArray, List.append_toArray, List.nil_append, List.cons_append]
  gi_wp2
  gi_loopw [9] (fun i wr => ∃ k : Nat, k ≤ ws.length ∧ i = .int .i64 k ∧ J ((List.range k).map (partAt a sum ws)) wr)
    (fun i _ => ws.length - (vInt i).toNat)
  case atStart => exact ⟨0, Nat.zero_le _, rfl, h0⟩
  case round =>
    obtain ⟨k, hk, rfl, hJs⟩ := hrel
    by_cases hlt : k < ws.length
    · obtain ⟨b, off, rfl, hc⟩ := hcell k hlt
      have hcx := hc _ _ hJs
      have h1x := g1 _ _ hJs
      have h2x := g2 _ _ hJs
      obtain ⟨x, hxe⟩ : ∃ x, x = ws.getD k 0 := ⟨_, rfl⟩
      have hxm : 0 ≤ x ∧ x ≤ 1000 := by
        have := hw (ws[k]) (List.getElem_mem hlt)
        rw [hxe]; simpa [List.getD, List.getElem?_eq_getElem hlt] using this
      rw [← hxe] at hcx
      have hax0 : 0 ≤ a * x := Int.mul_nonneg ha hxm.1
      have hax1 : a * x ≤ 1125899906842624 * 1000 := Int.le_trans (Int.mul_le_mul_of_nonneg_left hxm.2 ha) (Int.mul_le_mul_of_nonneg_right ha2 (by decide))
      have hws : IntKind.i64.wrap (a * x) = a * x := i64_wrap (by omega) (by omega)
      have hq0 : 0 ≤ (a * x).tdiv sum := Int.tdiv_nonneg hax0 (by omega)
      have hq1 : (a * x).tdiv sum ≤ a * x := by rw [Int.tdiv_eq_ediv_of_nonneg hax0]; exact Int.ediv_le_self _ hax0
      have hwq : IntKind.i64.wrap ((a * x).tdiv sum) = (a * x).tdiv sum := i64_wrap (by omega) (by omega)
      have hsn : ¬ (sum = 0) := by omega
      have hJd2 := hJd _ _ wr.drew hJs ((Below.refl _ wr).drew)
      have hpt : partAt a sum ws k = ⟨k, (a * x).tdiv sum, (a * x).tmod sum⟩ := by rw [partAt, hxe]
      obtain ⟨fn, tmps, assign, body, hy, hR⟩ := hY _ (partAt a sum ws k) wr.drew hJd2 (partsOf_take a sum ws hlt)
      rw [hpt] at hy hR
      simp only [valPart] at hy
      have hcd : wr.drew.cell? ⟨b1, o1, none⟩ = some (.int .i64 a) := h1x
      have hcd2 : wr.drew.cell? ⟨b2, o2, none⟩ = some (.int .i64 sum) := h2x
      clear hxe hc hcell g0 g1 g2 hxm hw
      gi_wp2
      gi_region_with_o (refine ⟨rfl, RoundIn.mono hR ?_⟩; rintro e W3 ⟨rfl, hJ3⟩)
      all_goals gi_wp2
      all_goals (refine ⟨⟨k + 1, by omega, by simp, ?_⟩, by simp [vInt]; omega⟩; rw [List.range_succ, List.map_append, List.map_singleton, hpt]; exact hJ3)
    · obtain rfl : k = ws.length := by omega
      gi_wp2
      go_end0
      exact ⟨⟨_, rfl⟩, hJs⟩
end Go.Proofs.Ytpkbecaailhhmaa

/-
  DERIVED: THE SHELF's CONTRACTS AT THIS DUMP, IN PLAIN WORDS (tools/lay-plain.mjs out of 'YtpkbecaailhhmaaLayAs.lean', which tools/lay-shelf.mjs wrote): THE SAME DECLARATIONS UNDER THE SAME NAMES: 'import', 'namespace', 'open', 'def', 'theorem' AND NOTHING ELSE: no command of the shelf's: FOR A HAND-IN. Each laying: the table of numbers ('.._ren') and one theorem, a field a fact of the dump's own or the kernel's comparison; each contract: ONE APPLICATION.
-/
namespace Go.Proofs
open Go.Shelf
def Try.lsort_ren : Go.Shelf.Ren := ⟨fun | 6 => 77 | 15 => 82 | 14 => 85 | 28 => 96 | 29 => 97 | 20 => 98 | 21 => 99 | 22 => 100 | 23 => 101 | 24 => 102 | 25 => 103 | 26 => 104 | 27 => 105 | 46 => 111 | 47 => 107 | 48 => 108 | 49 => 112 | 50 => 113 | 57 => 115 | n => n, fun | 22 => 107 | 24 => 112 | 25 => 114 | 3 => 3 | 39 => 104 | 0 => 0 | 53 => 133 | 55 => 135 | 4 => 4 | 46 => 126 | 45 => 125 | 50 => 32 | 5 => 5 | 9 => 9 | 66 => 141 | 70 => 145 | 76 => 149 | 77 => 150 | n => n, fun | n => n⟩
theorem Try.lsort : Go.Proofs.SlLaysF0.n6 Try.prog Try.lsort_ren := {
  mixed := by kernel_rfl
  f6 := ⟨Try.f77.name, by decide, Try.func77.trans (congrArg some (by kernel_rfl))⟩
  f14 := ⟨Try.f85.name, by decide, Try.func85.trans (congrArg some (by kernel_rfl))⟩
  f15 := Try.func82.trans (congrArg some (by kernel_rfl))
  f20 := ⟨Try.f98.name, by decide, Try.func98.trans (congrArg some (by kernel_rfl))⟩
  f21 := ⟨Try.f99.name, by decide, Try.func99.trans (congrArg some (by kernel_rfl))⟩
  f22 := ⟨Try.f100.name, by decide, Try.func100.trans (congrArg some (by kernel_rfl))⟩
  f23 := ⟨Try.f101.name, by decide, Try.func101.trans (congrArg some (by kernel_rfl))⟩
  f24 := ⟨Try.f102.name, by decide, Try.func102.trans (congrArg some (by kernel_rfl))⟩
  f25 := ⟨Try.f103.name, by decide, Try.func103.trans (congrArg some (by kernel_rfl))⟩
  f26 := ⟨Try.f104.name, by decide, Try.func104.trans (congrArg some (by kernel_rfl))⟩
  f27 := ⟨Try.f105.name, by decide, Try.func105.trans (congrArg some (by kernel_rfl))⟩
  f28 := Try.func96.trans (congrArg some (by kernel_rfl))
  f29 := Try.func97.trans (congrArg some (by kernel_rfl))
  f46 := ⟨Try.f111.name, by decide, Try.func111.trans (congrArg some (by kernel_rfl))⟩
  f47 := Try.func107.trans (congrArg some (by kernel_rfl))
  f48 := Try.func108.trans (congrArg some (by kernel_rfl))
  f49 := ⟨Try.f112.name, by decide, Try.func112.trans (congrArg some (by kernel_rfl))⟩
  f50 := ⟨Try.f113.name, by decide, Try.func113.trans (congrArg some (by kernel_rfl))⟩
  f57 := ⟨Try.f115.name, by decide, Try.func115.trans (congrArg some (by kernel_rfl))⟩
  t0 := Try.underlying0
  a0 := Try.isAgg0
  z0 := Try.sizeOf0
  v0 := Try.zeroValue0
  t3 := Try.underlying3
  a3 := Try.isAgg3
  z3 := Try.sizeOf3
  v3 := Try.zeroValue3
  t4 := Try.underlying4
  a4 := Try.isAgg4
  z4 := Try.sizeOf4
  v4 := Try.zeroValue4
  t5 := Try.underlying5
  a5 := Try.isAgg5
  z5 := Try.sizeOf5
  v5 := Try.zeroValue5
  t9 := Try.underlying9
  a9 := Try.isAgg9
  z9 := Try.sizeOf9
  v9 := Try.zeroValue9
  t22 := Try.underlying107
  a22 := Try.isAgg107
  z22 := Try.sizeOf107
  v22 := Try.zeroValue107
  t25 := Try.underlying114
  a25 := Try.isAgg114
  z25 := Try.sizeOf114
  v25 := Try.zeroValue114
  t39 := Try.underlying104
  a39 := Try.isAgg104
  z39 := Try.sizeOf104
  v39 := Try.zeroValue104
  t45 := Try.underlying125
  a45 := Try.isAgg125
  z45 := Try.sizeOf125
  v45 := Try.zeroValue125
  t46 := Try.underlying126
  a46 := Try.isAgg126
  z46 := Try.sizeOf126
  v46 := Try.zeroValue126
  t50 := Try.underlying32
  a50 := Try.isAgg32
  z50 := Try.sizeOf32
  v50 := Try.zeroValue32
  t53 := Try.underlying133
  a53 := Try.isAgg133
  z53 := Try.sizeOf133
  v53 := Try.zeroValue133
  t55 := Try.underlying135
  a55 := Try.isAgg135
  z55 := Try.sizeOf135
  v55 := Try.zeroValue135
  t66 := Try.underlying141
  a66 := Try.isAgg141
  z66 := Try.sizeOf141
  v66 := Try.zeroValue141
  t70 := Try.underlying145
  a70 := Try.isAgg145
  z70 := Try.sizeOf145
  v70 := Try.zeroValue145
  t76 := Try.underlying149
  a76 := Try.isAgg149
  z76 := Try.sizeOf149
  v76 := Try.zeroValue149
  t77 := Try.underlying150
  a77 := Try.isAgg150
  z77 := Try.sizeOf150
  v77 := Try.zeroValue150 }
def Try.lcmp_ren : Go.Shelf.Ren := ⟨fun | 5 => 60 | 7 => 72 | n => n, fun | 22 => 3 | 3 => 3 | 4 => 4 | n => n, fun | n => n⟩
theorem Try.lcmp : Go.Proofs.SlLaysC2.n5 Try.prog Try.lcmp_ren := {
  mixed := by kernel_rfl
  f5 := ⟨Try.f60.name, by decide, Try.func60.trans (congrArg some (by kernel_rfl))⟩
  f7 := ⟨Try.f72.name, by decide, Try.func72.trans (congrArg some (by kernel_rfl))⟩
  t3 := Try.underlying3
  a3 := Try.isAgg3
  z3 := Try.sizeOf3
  v3 := Try.zeroValue3
  t4 := Try.underlying4
  a4 := Try.isAgg4
  z4 := Try.sizeOf4
  v4 := Try.zeroValue4
  t22 := Try.underlying3
  a22 := Try.isAgg3
  z22 := Try.sizeOf3
  v22 := Try.zeroValue3 }
def Try.lkeys_ren : Go.Shelf.Ren := ⟨fun | 7 => 53 | 10 => 69 | n => n, fun | 23 => 79 | 26 => 3 | 3 => 3 | 28 => 83 | 0 => 0 | 27 => 82 | 33 => 76 | 4 => 4 | n => n, fun | n => n⟩
theorem Try.lkeys : Go.Proofs.SlLaysZI.n7 Try.prog Try.lkeys_ren := {
  mixed := by kernel_rfl
  f7 := ⟨Try.f53.name, by decide, Try.func53.trans (congrArg some (by kernel_rfl))⟩
  f10 := ⟨Try.f69.name, by decide, Try.func69.trans (congrArg some (by kernel_rfl))⟩
  t0 := Try.underlying0
  a0 := Try.isAgg0
  z0 := Try.sizeOf0
  v0 := Try.zeroValue0
  t4 := Try.underlying4
  a4 := Try.isAgg4
  z4 := Try.sizeOf4
  v4 := Try.zeroValue4
  t23 := Try.underlying79
  a23 := Try.isAgg79
  z23 := Try.sizeOf79
  v23 := Try.zeroValue79
  t26 := Try.underlying3
  a26 := Try.isAgg3
  z26 := Try.sizeOf3
  v26 := Try.zeroValue3
  t27 := Try.underlying82
  a27 := Try.isAgg82
  z27 := Try.sizeOf82
  v27 := Try.zeroValue82
  t28 := Try.underlying83
  a28 := Try.isAgg83
  z28 := Try.sizeOf83
  v28 := Try.zeroValue83
  t33 := Try.underlying76
  a33 := Try.isAgg76
  z33 := Try.sizeOf76
  v33 := Try.zeroValue76 }
def Try.lsorted_ren : Go.Shelf.Ren := ⟨fun | 6 => 52 | 8 => 67 | 9 => 68 | 11 => 80 | 13 => 82 | 12 => 81 | 23 => 96 | 24 => 97 | 14 => 87 | 15 => 88 | 16 => 89 | 17 => 90 | 18 => 91 | 19 => 92 | 20 => 93 | 21 => 94 | 22 => 95 | 25 => 106 | 26 => 107 | 27 => 108 | 28 => 109 | 29 => 110 | 30 => 72 | 31 => 114 | n => n, fun | 26 => 3 | 28 => 83 | 24 => 22 | 0 => 0 | 3 => 3 | 37 => 104 | 48 => 133 | 50 => 135 | 4 => 4 | 40 => 126 | 39 => 125 | 45 => 32 | 5 => 5 | 9 => 9 | 51 => 141 | 55 => 145 | 57 => 149 | 58 => 150 | 33 => 76 | n => n, fun | n => n⟩
theorem Try.lsorted : Go.Proofs.SlLaysZI.n6 Try.prog Try.lsorted_ren := {
  mixed := by kernel_rfl
  f6 := ⟨Try.f52.name, by decide, Try.func52.trans (congrArg some (by kernel_rfl))⟩
  f8 := ⟨Try.f67.name, by decide, Try.func67.trans (congrArg some (by kernel_rfl))⟩
  f11 := ⟨Try.f80.name, by decide, Try.func80.trans (congrArg some (by kernel_rfl))⟩
  t0 := Try.underlying0
  a0 := Try.isAgg0
  z0 := Try.sizeOf0
  v0 := Try.zeroValue0
  t24 := Try.underlying22
  a24 := Try.isAgg22
  z24 := Try.sizeOf22
  v24 := Try.zeroValue22
  t26 := Try.underlying3
  a26 := Try.isAgg3
  z26 := Try.sizeOf3
  v26 := Try.zeroValue3
  t28 := Try.underlying83
  a28 := Try.isAgg83
  z28 := Try.sizeOf83
  v28 := Try.zeroValue83
  i26 := by kernel_rfl }
def Try.lsortI_ren : Go.Shelf.Ren := ⟨fun | 5 => 68 | 8 => 82 | 7 => 81 | 19 => 96 | 20 => 97 | 10 => 87 | 11 => 88 | 12 => 89 | 13 => 90 | 14 => 91 | 15 => 92 | 16 => 93 | 17 => 94 | 18 => 95 | 30 => 106 | 31 => 107 | 32 => 108 | 33 => 109 | 34 => 110 | 35 => 72 | 40 => 114 | n => n, fun | 23 => 22 | 25 => 3 | 3 => 3 | 32 => 104 | 22 => 22 | 0 => 0 | 44 => 133 | 46 => 135 | 4 => 4 | 36 => 126 | 35 => 125 | 41 => 32 | 5 => 5 | 9 => 9 | 53 => 141 | 57 => 145 | 63 => 149 | 64 => 150 | n => n, fun | n => n⟩
theorem Try.lsortI : Go.Proofs.SlLaysM.n5 Try.prog Try.lsortI_ren := {
  mixed := by kernel_rfl
  f5 := ⟨Try.f68.name, by decide, Try.func68.trans (congrArg some (by kernel_rfl))⟩
  f7 := ⟨Try.f81.name, by decide, Try.func81.trans (congrArg some (by kernel_rfl))⟩
  f8 := Try.func82.trans (congrArg some (by kernel_rfl))
  f10 := ⟨Try.f87.name, by decide, Try.func87.trans (congrArg some (by kernel_rfl))⟩
  f11 := ⟨Try.f88.name, by decide, Try.func88.trans (congrArg some (by kernel_rfl))⟩
  f12 := ⟨Try.f89.name, by decide, Try.func89.trans (congrArg some (by kernel_rfl))⟩
  f13 := ⟨Try.f90.name, by decide, Try.func90.trans (congrArg some (by kernel_rfl))⟩
  f14 := ⟨Try.f91.name, by decide, Try.func91.trans (congrArg some (by kernel_rfl))⟩
  f15 := ⟨Try.f92.name, by decide, Try.func92.trans (congrArg some (by kernel_rfl))⟩
  f16 := ⟨Try.f93.name, by decide, Try.func93.trans (congrArg some (by kernel_rfl))⟩
  f17 := ⟨Try.f94.name, by decide, Try.func94.trans (congrArg some (by kernel_rfl))⟩
  f18 := ⟨Try.f95.name, by decide, Try.func95.trans (congrArg some (by kernel_rfl))⟩
  f19 := Try.func96.trans (congrArg some (by kernel_rfl))
  f20 := Try.func97.trans (congrArg some (by kernel_rfl))
  f30 := ⟨Try.f106.name, by decide, Try.func106.trans (congrArg some (by kernel_rfl))⟩
  f31 := Try.func107.trans (congrArg some (by kernel_rfl))
  f32 := Try.func108.trans (congrArg some (by kernel_rfl))
  f33 := ⟨Try.f109.name, by decide, Try.func109.trans (congrArg some (by kernel_rfl))⟩
  f34 := ⟨Try.f110.name, by decide, Try.func110.trans (congrArg some (by kernel_rfl))⟩
  f35 := ⟨Try.f72.name, by decide, Try.func72.trans (congrArg some (by kernel_rfl))⟩
  f40 := ⟨Try.f114.name, by decide, Try.func114.trans (congrArg some (by kernel_rfl))⟩
  t0 := Try.underlying0
  a0 := Try.isAgg0
  z0 := Try.sizeOf0
  v0 := Try.zeroValue0
  t3 := Try.underlying3
  a3 := Try.isAgg3
  z3 := Try.sizeOf3
  v3 := Try.zeroValue3
  t4 := Try.underlying4
  a4 := Try.isAgg4
  z4 := Try.sizeOf4
  v4 := Try.zeroValue4
  t5 := Try.underlying5
  a5 := Try.isAgg5
  z5 := Try.sizeOf5
  v5 := Try.zeroValue5
  t9 := Try.underlying9
  a9 := Try.isAgg9
  z9 := Try.sizeOf9
  v9 := Try.zeroValue9
  t22 := Try.underlying22
  a22 := Try.isAgg22
  z22 := Try.sizeOf22
  v22 := Try.zeroValue22
  t23 := Try.underlying22
  a23 := Try.isAgg22
  z23 := Try.sizeOf22
  v23 := Try.zeroValue22
  t25 := Try.underlying3
  a25 := Try.isAgg3
  z25 := Try.sizeOf3
  v25 := Try.zeroValue3
  t32 := Try.underlying104
  a32 := Try.isAgg104
  z32 := Try.sizeOf104
  v32 := Try.zeroValue104
  t35 := Try.underlying125
  a35 := Try.isAgg125
  z35 := Try.sizeOf125
  v35 := Try.zeroValue125
  t36 := Try.underlying126
  a36 := Try.isAgg126
  z36 := Try.sizeOf126
  v36 := Try.zeroValue126
  t41 := Try.underlying32
  a41 := Try.isAgg32
  z41 := Try.sizeOf32
  v41 := Try.zeroValue32
  t44 := Try.underlying133
  a44 := Try.isAgg133
  z44 := Try.sizeOf133
  v44 := Try.zeroValue133
  t46 := Try.underlying135
  a46 := Try.isAgg135
  z46 := Try.sizeOf135
  v46 := Try.zeroValue135
  t53 := Try.underlying141
  a53 := Try.isAgg141
  z53 := Try.sizeOf141
  v53 := Try.zeroValue141
  t57 := Try.underlying145
  a57 := Try.isAgg145
  z57 := Try.sizeOf145
  v57 := Try.zeroValue145
  t63 := Try.underlying149
  a63 := Try.isAgg149
  z63 := Try.sizeOf149
  v63 := Try.zeroValue149
  t64 := Try.underlying150
  a64 := Try.isAgg150
  z64 := Try.sizeOf150
  v64 := Try.zeroValue150 }
end Go.Proofs

/-
  cmp.Or at two numbers; the comparison of two parts, with the world behind it. Conditions: those of each theorem.
-/
set_option linter.unusedVariables false
set_option linter.unusedSimpArgs false
namespace Go.Proofs.Ytpkbecaailhhmaa
open Go.DL Go.RowKit Go.Shelf Go.Sort
attribute [local go_sem] Oper.semAt_some
set_option maxRecDepth 100000
def orI (a b : Int) : Int := if a = 0 then b else a
theorem ft3 : Try.prog.underlying 3 = some (TypeDesc.int IntKind.i64) := by kernel_rfl
theorem ft22 : Try.prog.underlying 22 = some (TypeDesc.slice 3) := by kernel_rfl
theorem ftmixed : Try.prog.follows .mixedOrders = true := by kernel_rfl
set_option maxHeartbeats 4000000 in
theorem or_calls (b : Nat) (c1 c2 : Int) (w : World) (h0 : w.cell? ⟨b, 0, none⟩ = some (.int .i64 c1)) (h1 : w.cell? ⟨b, 1, none⟩ = some (.int .i64 c2)) :
    Calls Try.prog 86 #[.slice (some ⟨b, 0, none⟩) 2 2] w fun e w' => e = .returned (.int .i64 (orI c1 c2)) ∧ w' = w := by
  refine (callsIn_wide (n := 0)).1 (callsIn_of_wp Try.func86 rfl trivial ?_ rfl)
  simp only [Try.ntmps86, List.size_toArray, List.length_cons, List.length_nil, Nat.reduceAdd, Nat.reduceSub, Array.replicate_succ, Array.replicate_zero, List.push_toArray, List.append_toArray, List.nil_append, List.cons_append]
  have u3 := run_underlying (P := Try.prog) ft3; have u22 := run_underlying (P := Try.prog) ft22
  gi_wp2
  gi_loopw [8] (fun i wr => ∃ k : Nat, k ≤ 2 ∧ i = .int .i64 k ∧ wr = w ∧ (1 ≤ k → c1 = 0) ∧ (2 ≤ k → c2 = 0))
    (fun i _ => 2 - (vInt i).toNat)
  case atStart => exact ⟨0, by omega, rfl, rfl, by omega, by omega⟩
  case round =>
    obtain ⟨k, hk, rfl, rfl, hz1, hz2⟩ := hrel
    match k, hk with
    | 0, _ =>
      gi_wp2
      · go_ret
        rename_i hne
        have e : orI c1 c2 = c1 := by have : c1 ≠ 0 := by simpa using hne
                                      simp [orI, this]
        exact ⟨by rw [e]; rfl, rfl⟩
      · rename_i he
        exact ⟨⟨1, by omega, rfl, trivial, fun _ => by simpa using he, by omega⟩, by simp [vInt]⟩
    | 1, _ =>
      gi_wp2
      · go_ret
        have e : orI c1 c2 = c2 := by simp [orI, hz1 (by omega)]
        exact ⟨by rw [e]; rfl, rfl⟩
      · rename_i he
        exact ⟨⟨2, by omega, rfl, trivial, fun _ => hz1 (by omega), fun _ => by simpa using he⟩, by simp [vInt]⟩
    | 2, _ =>
      gi_wp2
      go_ret
      have e : orI c1 c2 = 0 := by simp [orI, hz1 (by omega), hz2 (by omega)]
      exact ⟨by rw [e]; rfl, rfl⟩
def cfP (x y : Part) : Int := orI (Lib.compareInt y.r x.r) (Lib.compareInt x.i y.i)
set_option maxHeartbeats 4000000 in
theorem before_calls (x y : Part) (W : World) : Calls Try.prog 78 #[.agg #[.int .i64 x.i, .int .i64 x.c, .int .i64 x.r], .agg #[.int .i64 y.i, .int .i64 y.c, .int .i64 y.r]] W fun e w' => e = .returned (.int .i64 (cfP x y)) ∧ ∃ q os', w' = grow (W.drewN q) os' := by
  have hcon := fun a b W' => AnyG.cmp_Compare_int Try.lcmp a b W'
  change ∀ a b W', Calls Try.prog 60 _ _ _ at hcon
  have mixed := ftmixed
  have u3 := run_underlying (P := Try.prog) ft3; have u22 := run_underlying (P := Try.prog) ft22
  unfold cfP
  generalize e1 : Lib.compareInt y.r x.r = r1
  generalize e2 : Lib.compareInt x.i y.i = r2
  go_enter Try.func78, Try.ntmps78
  go_wp2_with (first | (go_at_call 60; refine (hcon _ _ _).mono ?_; rintro e w' ⟨rfl, rfl⟩) | (go_at_call 86; refine (or_calls _ r1 r2 _ ?_ ?_).mono ?_; rintro e w' ⟨rfl, rfl⟩))
  refine wp_region_still_tail 10 mixed (by kernel_rfl) ?_
  simp only [List.take_succ_cons, List.take_zero, List.drop_succ_cons, List.drop_zero]
  change wpStill _ _ (World.drew _) _ _ _
  change wpStill _ _ (World.drew ((W.alloc (.cells #[.int .i64 x.i, .int .i64 x.c, .int .i64 x.r] 112)).alloc (.cells #[.int .i64 y.i, .int .i64 y.c, .int .i64 y.r] 112))) (fun a' => wpList _ _ _ _ _ (World.drew ((W.alloc (.cells #[.int .i64 x.i, .int .i64 x.c, .int .i64 x.r] 112)).alloc (.cells #[.int .i64 y.i, .int .i64 y.c, .int .i64 y.r] 112)))) _ _
  obtain ⟨W3, hW3⟩ : ∃ W3, World.drew ((W.alloc (.cells #[.int .i64 x.i, .int .i64 x.c, .int .i64 x.r] 112)).alloc (.cells #[.int .i64 y.i, .int .i64 y.c, .int .i64 y.r] 112)) = W3 := ⟨_, rfl⟩
  rw [hW3]
  have f0 : W3.cell? ⟨W.heap.size, 0, none⟩ = some (.int .i64 x.i) := by rw [← hW3]; simp
  have f2 : W3.cell? ⟨W.heap.size, 2, none⟩ = some (.int .i64 x.r) := by rw [← hW3]; simp
  have k0 : W3.cell? ⟨W.heap.size + 1, 0, none⟩ = some (.int .i64 y.i) := by rw [← hW3]; simp
  have k2 : W3.cell? ⟨W.heap.size + 1, 2, none⟩ = some (.int .i64 y.r) := by rw [← hW3]; simp
  have hgr : ∃ q os', W3 = grow (W.drewN q) os' := ⟨1, _, by rw [← hW3, alloc_eq_grow, alloc_eq_grow, grow_grow]; rfl⟩
  clear hW3
  repeat (first | still_step | still_call (hcon _ _ _))
  refine wpStill_nil ?_
  go_wp2_with (go_at_call 86; refine (or_calls _ r1 r2 _ (by simp) (by simp)).mono ?_; rintro e w' ⟨rfl, rfl⟩)
  go_ret
  obtain ⟨q0, os0, rfl⟩ := hgr
  exact ⟨rfl, q0, _, by rw [alloc_eq_grow, grow_grow]⟩
end Go.Proofs.Ytpkbecaailhhmaa

/-
  slices.SortFunc at the parts of an amount: what money.Split's walk asks. Conditions: those of each theorem.
-/
set_option linter.unusedVariables false
set_option linter.unusedSimpArgs false
namespace Go.Proofs.Ytpkbecaailhhmaa
open Go.DL Go.RowKit Go.Shelf Go.Sort
instance : Inhabited Part := ⟨⟨0, 0, 0⟩⟩
def encK (p : Part) : List Value := [.int .i64 p.i, .int .i64 p.c, .int .i64 p.r]
theorem lt_ahead (x y : Part) : ltOf cfP x y = ahead x y := by
  unfold ltOf cfP orI Lib.compareInt ahead
  by_cases h1 : y.r < x.r
  · simp [h1]
  · by_cases h2 : x.r < y.r
    · have h3 : ¬ x.r = y.r := by omega
      simp [h1, h2, h3]
    · have h3 : x.r = y.r := by omega
      by_cases h4 : x.i < y.i
      · simp [h1, h2, h3, h4]
      · by_cases h5 : y.i < x.i <;> simp [h1, h2, h3, h4, h5]
theorem swoP : SWO (ltOf cfP) where
  irrefl x := by rw [lt_ahead]; simp [ahead]
  trans x y z h1 h2 := by
    rw [lt_ahead] at *
    simp only [ahead, Bool.or_eq_true, Bool.and_eq_true, decide_eq_true_eq] at *
    omega
  ntrans x y z h1 h2 := by
    rw [lt_ahead] at *
    simp only [ahead, Bool.or_eq_false_iff, Bool.and_eq_false_iff, decide_eq_false_iff_not] at *
    omega
theorem flatK_row (d : List Part) : (flatK encK 3 d.toArray).toList = rowV (d.map encPart) := by
  have hu : ∀ e ∈ d.map encPart, e.cells.length = 3 := fun e he => by obtain ⟨x, _, rfl⟩ := List.mem_map.1 he; rfl
  apply List.ext_getElem?
  intro t
  by_cases ht : t < d.length * 3
  · have hk : t / 3 < d.length := by omega
    have h1 : (d.map encPart)[t / 3]? = some (encPart d[t / 3]) := by rw [List.getElem?_map, List.getElem?_eq_getElem hk]; rfl
    have hsz : (flatK encK 3 d.toArray).size = d.length * 3 := by simp
    have h2 : (flatK encK 3 d.toArray).toList[t]? = some ((encK d[t / 3])[t % 3]!) := by
      rw [Array.getElem?_toList, Array.getElem?_eq_getElem (by rw [hsz]; exact ht)]
      have := get_flatK encK 3 d.toArray t (by simpa using ht)
      rw [getElem!_pos _ t (by rw [hsz]; exact ht)] at this
      rw [this, getElem!_pos d.toArray (t / 3) (by simpa using hk)]
      simp
    rw [h2, rowV, List.getElem?_map]
    have h3 : ∀ j c, (encPart d[t / 3]).cells[j]? = some c → (flat (d.map encPart))[t / 3 * 3 + j]? = some c := fun j c hj => flat_get (sz := 3) hu h1 hj
    have h4 : t = t / 3 * 3 + t % 3 := by omega
    clear h2 h1 hsz
    generalize d[t / 3] = q at h3 ⊢
    have h5 : t % 3 < 3 := Nat.mod_lt _ (by decide)
    generalize hm : t % 3 = m at h4 h5 ⊢
    rw [h4]
    match m, h5 with
    | 0, _ => rw [h3 0 _ rfl]; rfl
    | 1, _ => rw [h3 1 _ rfl]; rfl
    | 2, _ => rw [h3 2 _ rfl]; rfl
  · rw [List.getElem?_eq_none (by simp; omega), List.getElem?_eq_none (by rw [rowV, List.length_map, flat_length _ hu, List.length_map]; omega)]
theorem cmp_lays (blk off size : Nat) (w : World) : CmpLays Try.prog 78 #[] encK 3 cfP blk off size w := fun _ _ _ _ x y => before_calls x y _
theorem take_put (cur F : Array Value) (h : F.size ≤ cur.size) : (putCells id 0 F cur).toList.take F.size = F.toList := by
  apply List.ext_getElem?
  intro j
  by_cases hj : j < F.size
  · rw [List.getElem?_take_of_lt hj, Array.getElem?_toList]
    simp [putCells, hj, show j < cur.size by omega]
  · rw [List.getElem?_take_eq_none (by omega), List.getElem?_eq_none (by simp; omega)]
theorem sort_ok : SortOK Try.prog 77 78 112 3 encPart sortR := by
  refine ⟨⟨Try.f77, by kernel_rfl, by kernel_rfl, by kernel_rfl⟩, ?_⟩
  intro w blk cap cur d hne hlt hb hcap hmax hcs htk
  have hblk := (Array.getElem?_eq_some_iff.1 hb).1
  have hF : (flatK encK 3 d.toArray).size = d.length * 3 := by simp
  have hcur : d.length * 3 ≤ cur.size := by rw [hcs]; exact Nat.mul_le_mul_right _ hcap
  have hH : HoldsK encK 3 w blk 0 d.toArray := by
    intro j hj
    rw [hF] at hj
    refine ⟨?_, by simp [World.frozen?, hb]⟩
    have h1 : (cur.toList.take (d.length * 3))[j]? = (flatK encK 3 d.toArray).toList[j]? := by rw [htk, flatK_row]
    rw [List.getElem?_take_of_lt hj] at h1
    simp only [World.cell?, hb, Nat.zero_add, Option.isSome_none, Bool.false_eq_true, if_false]
    rw [← Array.getElem?_toList, h1, Array.getElem?_toList, Array.getElem?_eq_getElem (by rw [hF]; exact hj), getElem!_pos _ j (by rw [hF]; exact hj)]
    rfl
  have hcon := AnyQ.slices_SortFunc Try.lsort 3 Try.isAgg112 Try.sizeOf112 encK (fun _ => rfl) (fun x v hv => by simp [encK] at hv; rcases hv with rfl | rfl | rfl <;> rfl) cfP swoP 78 #[] blk 0 cap d.toArray w
    (enters_of Try.func78 (by kernel_rfl) rfl) (cmp_lays blk 0 _ w) hH hblk (by simpa using hlt)
  simp only [List.size_toArray] at hcon
  refine hcon.mono ?_
  rintro e w' ⟨rfl, d', n, os, hp, hs, rfl⟩
  have hsz : d'.size = d.length := by simpa using hp.1
  have hF' : (flatK encK 3 d').size = d.length * 3 := by simp [hsz]
  refine ⟨rfl, d'.toList, putCells id 0 (flatK encK 3 d') cur, ⟨?_, ?_⟩, by simpa using hsz, ⟨rfl, rfl, rfl, by simp [sortWorldK, putRowK], fun k hk hne' => ?_⟩, ?_, by simp [putCells], ?_⟩
  · have := hp.2.2
    rw [Array.extract_eq_self_of_le (by omega), Array.extract_eq_self_of_le (by simp)] at this
    simpa using this
  · rw [List.pairwise_iff_getElem]
    intro i j hi hj hij
    have := hs i j (Nat.zero_le _) hij (by simpa [hsz] using hj)
    rw [lt_ahead, getElem!_pos d' j (by simpa using hj), getElem!_pos d' i (by simpa using hi)] at this
    simpa using this
  · unfold sortWorldK putRowK
    rw [heap_grow_old _ _ (by simpa using hk)]
    have : blk ≠ k := fun e => hne' (by rw [e])
    simp [putRow, mapBlock, Sort.ahead, Array.getElem?_modify, this]
  · unfold sortWorldK putRowK
    rw [heap_grow_old _ _ (by simpa using hblk)]
    simp [putRow, mapBlock, Sort.ahead, Array.getElem?_modify, hb, onCells]
  · have := take_put cur (flatK encK 3 d') (by rw [hF']; exact hcur)
    rw [hF'] at this
    rw [this]
    have := flatK_row d'.toList
    rwa [Array.toArray_toList] at this
end Go.Proofs.Ytpkbecaailhhmaa

/-
  Walks at the data level, printed by gen.py: what each Go function returns, for data that reads as said. Conditions: those of each theorem.
-/
namespace Go.Proofs.Ytpkbecaailhhmaa
open Go.DL
set_option maxRecDepth 100000
set_option linter.unusedVariables false
set_option linter.unusedSimpArgs false
theorem ret_cloneI (l : List Int) (hl : l.length ≤ 100000) : Ret Try.prog 79 [(.sl 1 (l.map encI))] (.sl 1 (l.map encI)) := by
  refine Ret.of_T Try.func79 (by kernel_rfl) rfl ?_
  refine T_turn [] [0] [] (mk 8 [(0, (dt (.sl 1 (l.map encI))))] []) (by kernel_rfl) ?_
  refine T_reg [] [0] [] (mk 8 [(0, (dt (.sl 1 (l.map encI))))] []) (True ∧ True ∧ True) (by kernel_rfl) ⟨trivial, trivial, trivial⟩ ?_
  refine T_seq ?_
  refine T_seq (T_parts ?_)
  refine TL_part 1 [] (mk 8 [(0, (dt (.sl 1 (l.map encI)))), (3, (dt (.sl 1 (l.map encI))))] []) (True ∧ True ∧ True) (by kernel_rfl) ⟨trivial, trivial, trivial⟩ rfl ?_
  refine TL_nil (sz := 1) (es := l.map encI) rfl rfl ⟨3, by kernel_rfl⟩ (by kernel_rfl) (fun b1 hb2 => ?_)
  rcases b1 with _ | _
  · skip
    refine TL_nilQ ?_
    refine T_turn [] [0, 4] [] (mk 8 [(0, (dt (.sl 1 (l.map encI)))), (4, (dt (B false)))] []) (by kernel_rfl) ?_
    refine T_cond false (by kernel_rfl) (fun h => absurd (h.symm.trans rfl) (by decide)) (fun _ => ?_)
    refine T_skip ?_
    refine T_reg [{}, {}, { d := some (.sl 1 (l.map encI)) }] [2] [] (mk 8 [(2, (.one (.own 7)))] [(7, (.row 3 1 (l.map encI)))]) (True ∧ (dfill (fun i => some (i * 1, 1)) (List.replicate (0 * 1) .junk) [] = some ((flat (([] : List Int).map encI)).map .dat)) ∧ True ∧ True ∧ True ∧ (((([] : List Int).map encI).length + (l.map encI).length) * 8 ≤ 140737488355328 ∧ cellsOne (l.map encI) ∧ (([] : List Int).map encI) ++ l.map encI = l.map encI) ∧ True ∧ True ∧ True) (by kernel_rfl) ⟨trivial, rfl, trivial, trivial, trivial, ⟨by simp only [List.length_map, List.length_nil, List.length_cons]; omega, encI_one _, by simp⟩, trivial, trivial, trivial⟩ ?_
    refine T_ret ?_
    exact ret_here [(.one (.own 7))] (by kernel_rfl) rfl
  · skip
    have nil3 : l = [] := by simpa using hb2 rfl
    refine TL_nilQ ?_
    refine T_turn [] [0, 4] [] (mk 8 [(0, (dt (.sl 1 (l.map encI)))), (4, (dt (B true)))] []) (by kernel_rfl) ?_
    refine T_cond true (by kernel_rfl) (fun _ => ?_) (fun h => absurd (h.symm.trans rfl) (by decide))
    refine T_reg [] [2] [] (mk 8 [(2, (dt nilS))] []) (True ∧ True ∧ True) (by kernel_rfl) ⟨trivial, trivial, trivial⟩ ?_
    refine T_ret ?_
    exact ret_here [(dt nilS)] (by kernel_rfl) (.inr ⟨rfl, 1, (by show D.sl _ _ = _; exact congrArg (fun l => D.sl 1 (l.map encI)) (by simp_all : l = []))⟩)

theorem ret_parts (a n : Int) (ws : List Int) : Ret Try.prog 76 [(I a), (.sl 1 (ws.map encI)), (I n)] (.fn 84 [(.ptr [(.sl 1 (ws.map encI))]), (.ptr [(I a)]), (.ptr [(I n)])]) := by
  refine Ret.of_T Try.func76 (by kernel_rfl) rfl ?_
  refine T_turn [] [0, 1, 2] [] (mk 8 [(0, (dt (I a))), (1, (dt (.sl 1 (ws.map encI)))), (2, (dt (I n)))] []) (by kernel_rfl) ?_
  refine T_reg [] [3, 4, 5] [] (mk 8 [(3, (.one (.ref 3 0))), (4, (.one (.ref 4 0))), (5, (.one (.ref 5 0)))] [(5, (.var [(.dat (I n))])), (4, (.var [(.dat (.sl 1 (ws.map encI)))])), (3, (.var [(.dat (I a))]))]) (True ∧ True ∧ True ∧ True ∧ True ∧ True ∧ True ∧ True ∧ True) (by kernel_rfl) ⟨trivial, trivial, trivial, trivial, trivial, trivial, trivial, trivial, trivial⟩ ?_
  refine T_turn [3, 4, 5] [3, 4, 5] [] (mk 8 [(3, (dt (.ptr [(I a)]))), (4, (dt (.ptr [(.sl 1 (ws.map encI))]))), (5, (dt (.ptr [(I n)])))] []) (by kernel_rfl) ?_
  refine T_reg [] [6] [] (mk 8 [(6, (.one (.fn 84 [.inr (.ptr [(.sl 1 (ws.map encI))]), .inr (.ptr [(I a)]), .inr (.ptr [(I n)])])))] []) (True ∧ True ∧ True ∧ True ∧ True) (by kernel_rfl) ⟨trivial, trivial, trivial, trivial, trivial⟩ ?_
  refine T_ret ?_
  exact ret_here [(.one (.fn 84 [.inr (.ptr [(.sl 1 (ws.map encI))]), .inr (.ptr [(I a)]), .inr (.ptr [(I n)])]))] (by kernel_rfl) rfl

theorem ret_split (a : Int) (ws : List Int) (ha : 0 ≤ a) (ha2 : a ≤ 1125899906842624) (hw : ∀ x ∈ ws, 0 ≤ x ∧ x ≤ 1000) (hl : ws.length ≤ 256) (hs : 0 < sumL 0 ws) : Ret Try.prog 64 [(I a), (.sl 1 (ws.map encI))] (.tup [(.sl 1 ((splitW a (sumL 0 ws) ws).map encI)), (I 0)]) := by
  refine Ret.of_T Try.func64 (by kernel_rfl) rfl ?_
  refine T_turn [] [0, 1] [] (mk 89 [(0, (dt (I a))), (1, (dt (.sl 1 (ws.map encI))))] []) (by kernel_rfl) ?_
  refine T_reg [] [0, 1] [] (mk 89 [(0, (dt (I a))), (1, (dt (.sl 1 (ws.map encI))))] []) (True ∧ True ∧ True ∧ True ∧ True) (by kernel_rfl) ⟨trivial, trivial, trivial, trivial, trivial⟩ ?_
  refine T_seq ?_
  refine T_reg [{}, { d := some (I (chkM a)) }] [0, 1, 18] [] (mk 89 [(0, (dt (I a))), (1, (dt (.sl 1 (ws.map encI)))), (18, (dt (B ((chkM a) != 0))))] []) (True ∧ True ∧ True ∧ (Ret Try.prog 75 [(I a)] (I (chkM a))) ∧ True ∧ True ∧ True) (by kernel_rfl) ⟨trivial, trivial, trivial, (ret_chkM _), trivial, trivial, trivial⟩ ?_
  refine T_cond ((chkM a) != 0) (by kernel_rfl) (fun h1 => ?_) (fun h1 => ?_)
  · skip
    have g2 : (chkM a) ≠ 0 := bne_iff_ne.1 (h1)
    exact (by exfalso; have := chkM_cases a; have h0 := sumL_nil ws; first | omega | (have := sumL_end iv (by omega); omega))
  · skip
    have g3 : (chkM a) = 0 := bne_f (h1)
    refine T_skip ?_
    refine T_seq ?_
    refine T_reg [{}, { d := some (I ((ws.length : Nat) : Int)) }] [0, 1, 21] [] (mk 89 [(0, (dt (I a))), (1, (dt (.sl 1 (ws.map encI)))), (21, (dt (B (decide (((ws.length : Nat) : Int) > 256)))))] []) (True ∧ True ∧ True ∧ (True ∧ D.int .i64 ((ws.map encI).length : Int) = (I ((ws.length : Nat) : Int))) ∧ True ∧ True ∧ True) (by kernel_rfl) ⟨trivial, trivial, trivial, ⟨trivial, by rw [List.length_map]⟩, trivial, trivial, trivial⟩ ?_
    refine T_cond (decide (((ws.length : Nat) : Int) > 256)) (by kernel_rfl) (fun h4 => ?_) (fun h4 => ?_)
    · skip
      have g5 : ((ws.length : Nat) : Int) > 256 := of_decide_eq_true (h4)
      exact (by exfalso; have := chkM_cases a; have h0 := sumL_nil ws; first | omega | (have := sumL_end iv (by omega); omega))
    · skip
      have g6 : ¬ (((ws.length : Nat) : Int) > 256) := of_decide_eq_false (h4)
      refine T_skip ?_
      refine T_reg [] [0, 1, 6] [] (mk 89 [(0, (dt (I a))), (1, (dt (.sl 1 (ws.map encI)))), (6, (dt (I 0)))] []) (True ∧ True ∧ True) (by kernel_rfl) ⟨trivial, trivial, trivial⟩ ?_
      refine T_seq ?_
      refine T_reg [{}, { d := some (I ((ws.length : Nat) : Int)) }] [0, 1, 6, 22, 23, 24] [] (mk 89 [(0, (dt (I a))), (1, (dt (.sl 1 (ws.map encI)))), (6, (dt (I 0))), (22, (dt (.sl 1 (ws.map encI)))), (23, (dt (I ((ws.length : Nat) : Int)))), (24, (dt (I 0)))] []) (True ∧ True ∧ True ∧ (True ∧ D.int .i64 ((ws.map encI).length : Int) = (I ((ws.length : Nat) : Int))) ∧ True ∧ True ∧ True) (by kernel_rfl) ⟨trivial, trivial, trivial, ⟨trivial, by rw [List.length_map]⟩, trivial, trivial, trivial⟩ ?_
      refine T_block ?_
      refine T_turn [] [0, 1, 6, 22, 23, 24] [] ((fun ((k, n) : Nat × Int) => (mk 89 [(0, (dt (I a))), (1, (dt (.sl 1 (ws.map encI)))), (6, (dt (I n))), (22, (dt (.sl 1 (ws.map encI)))), (23, (dt (I ((ws.length : Nat) : Int)))), (24, (dt (I ((k : Nat) : Int))))] [])) (0, 0)) (by kernel_rfl) (T_loop (α := Nat × Int) (fun ((k, n) : Nat × Int) => (mk 89 [(0, (dt (I a))), (1, (dt (.sl 1 (ws.map encI)))), (6, (dt (I n))), (22, (dt (.sl 1 (ws.map encI)))), (23, (dt (I ((ws.length : Nat) : Int)))), (24, (dt (I ((k : Nat) : Int))))] [])) (fun ((k, n) : Nat × Int) => (k ≤ (ws).length) ∧ (sumL n (ws.drop k) = sumL 0 ws) ∧ (0 ≤ n ∧ n ≤ 1000 * (k : Int)) ∧ True) (fun ((k, n) : Nat × Int) => (ws).length - k) (0, 0) ⟨Nat.zero_le _, rfl, ⟨Int.le_refl _, by simp⟩, trivial⟩ ?_)
      rintro ⟨k, n⟩ ⟨ik, iv, ib, _⟩
      refine T_reg [] [0, 1, 6, 22, 23, 24, 25] [] (mk 89 [(0, (dt (I a))), (1, (dt (.sl 1 (ws.map encI)))), (6, (dt (I n))), (22, (dt (.sl 1 (ws.map encI)))), (23, (dt (I ((ws.length : Nat) : Int)))), (24, (dt (I ((k : Nat) : Int)))), (25, (dt (B (decide (((k : Nat) : Int) < ((ws.length : Nat) : Int))))))] []) (True ∧ True ∧ True) (by kernel_rfl) ⟨trivial, trivial, trivial⟩ ?_
      refine T_seq ?_
      refine T_cond (decide (((k : Nat) : Int) < ((ws.length : Nat) : Int))) (by kernel_rfl) (fun h7 => ?_) (fun h7 => ?_)
      · skip
        have g8 : ((k : Nat) : Int) < ((ws.length : Nat) : Int) := of_decide_eq_true (h7)
        refine T_skip ?_
        refine T_seq ?_
        refine T_block ?_
        have lt9 : k < (ws).length := by first | omega | (simp only [List.length_set, List.length_map, List.length_append, List.length_cons, List.length_nil] at *; omega)
        obtain ⟨x10, hx11⟩ : ∃ x, (ws)[k]? = some x := ⟨_, List.getElem?_eq_getElem lt9⟩
        have hwx := hw _ (List.mem_of_getElem? hx11)
        refine T_reg [{ d := some (I x10) }] [0, 1, 6, 8, 22, 23, 24] [] (mk 89 [(0, (dt (I a))), (1, (dt (.sl 1 (ws.map encI)))), (6, (dt (I n))), (8, (dt (I x10))), (22, (dt (.sl 1 (ws.map encI)))), (23, (dt (I ((ws.length : Nat) : Int)))), (24, (dt (I ((k : Nat) : Int))))] []) (True ∧ (0 ≤ ((k : Nat) : Int) ∧ (ws.map encI)[k]? = some (I x10)) ∧ True ∧ True ∧ True ∧ True ∧ True) (by kernel_rfl) ⟨trivial, ⟨by omega, by rw [List.getElem?_map, hx11]; rfl⟩, trivial, trivial, trivial, trivial, trivial⟩ ?_
        refine T_seq ?_
        rcases Bool.eq_false_or_eq_true (decide (x10 < 0)) with h12 | h12
        · skip
          have g13 : x10 < 0 := of_decide_eq_true (h12)
          exact (by exfalso; have := hw _ (List.mem_of_getElem? hx11); omega)
        · skip
          have g14 : ¬ (x10 < 0) := of_decide_eq_false (h12)
          refine T_reg [{}, {}, {}, {}, {}, { d := some (B false) }] [0, 1, 6, 8, 22, 23, 24, 33] [] (mk 89 [(0, (dt (I a))), (1, (dt (.sl 1 (ws.map encI)))), (6, (dt (I n))), (8, (dt (I x10))), (22, (dt (.sl 1 (ws.map encI)))), (23, (dt (I ((ws.length : Nat) : Int)))), (24, (dt (I ((k : Nat) : Int)))), (33, (dt (B (decide (x10 > 1000)))))] []) (True ∧ True ∧ True ∧ True ∧ True ∧ True ∧ (((decide (x10 < 0)) == false) = true) ∧ True ∧ (((decide (x10 < 0)) == false) = true) ∧ True ∧ True ∧ ((decide (x10 < 0)) = false) ∧ True) (by kernel_rfl) ⟨trivial, trivial, trivial, trivial, trivial, trivial, (by rw [show (decide (x10 < 0)) = false from h12]; rfl), trivial, (by rw [show (decide (x10 < 0)) = false from h12]; rfl), trivial, trivial, h12, trivial⟩ ?_
          refine T_cond (decide (x10 > 1000)) (by kernel_rfl) (fun h15 => ?_) (fun h15 => ?_)
          · skip
            have g16 : x10 > 1000 := of_decide_eq_true (h15)
            exact (by exfalso; have := hw _ (List.mem_of_getElem? hx11); omega)
          · skip
            have g17 : ¬ (x10 > 1000) := of_decide_eq_false (h15)
            refine T_skip ?_
            refine T_regE [{}, {}, { d := some (I (n + x10)) }] (mk 89 [(0, (dt (I a))), (1, (dt (.sl 1 (ws.map encI)))), (6, (dt (I (n + x10)))), (8, (dt (I x10))), (22, (dt (.sl 1 (ws.map encI)))), (23, (dt (I ((ws.length : Nat) : Int)))), (24, (dt (I ((k : Nat) : Int)))), (33, (dt (B (decide (x10 > 1000))))), (34, (dt (I n))), (35, (dt (I x10))), (36, (dt (I (n + x10))))] []) (True ∧ True ∧ True ∧ True ∧ True ∧ (IntKind.i64.wrap (n + x10) = (n + x10)) ∧ True ∧ True ∧ True) (by kernel_rfl) ⟨trivial, trivial, trivial, trivial, trivial, (i64_wrap (by omega) (by omega)), trivial, trivial, trivial⟩ ?_
            refine T_regE [{ d := some (I ((k + 1 : Nat) : Int)) }] (mk 89 [(0, (dt (I a))), (1, (dt (.sl 1 (ws.map encI)))), (6, (dt (I (n + x10)))), (8, (dt (I x10))), (22, (dt (.sl 1 (ws.map encI)))), (23, (dt (I ((ws.length : Nat) : Int)))), (24, (dt (I ((k + 1 : Nat) : Int)))), (33, (dt (B (decide (x10 > 1000))))), (34, (dt (I n))), (35, (dt (I x10))), (36, (dt (I (n + x10)))), (37, (dt (I ((k + 1 : Nat) : Int))))] []) (True ∧ (IntKind.i64.wrap (((k : Nat) : Int) + 1) = ((k + 1 : Nat) : Int)) ∧ True ∧ True ∧ True) (by kernel_rfl) ⟨trivial, (by rw [i64_wrap (by omega) (by omega)]; omega), trivial, trivial, trivial⟩ ?_
            refine Exists.intro (k + 1, (n + x10)) ⟨⟨by omega, by rw [← iv, drop_cons hx11]; rfl, by have := hw _ (List.mem_of_getElem? hx11); omega, trivial⟩, by first | omega | (dsimp only; omega), le_turn [] [0, 1, 6, 22, 23, 24] [] (by kernel_rfl)⟩
      · skip
        have g18 : ¬ (((k : Nat) : Int) < ((ws.length : Nat) : Int)) := of_decide_eq_false (h7)
        refine T_exit ?_
        refine T_seq ?_
        refine T_reg [] [0, 1, 6, 39] [] (mk 89 [(0, (dt (I a))), (1, (dt (.sl 1 (ws.map encI)))), (6, (dt (I n))), (39, (dt (B (n == 0))))] []) (True ∧ True ∧ True ∧ True ∧ True) (by kernel_rfl) ⟨trivial, trivial, trivial, trivial, trivial⟩ ?_
        refine T_cond (n == 0) (by kernel_rfl) (fun h19 => ?_) (fun h19 => ?_)
        · skip
          have g20 : n = 0 := eq_of_beq (h19)
          exact (by exfalso; have := chkM_cases a; have h0 := sumL_nil ws; first | omega | (have := sumL_end iv (by omega); omega))
        · skip
          have g21 : n ≠ 0 := ne_of_beq_false (h19)
          refine T_skip ?_
          refine T_reg [] [0, 1, 6, 9] [] (mk 89 [(0, (dt (I a))), (1, (dt (.sl 1 (ws.map encI)))), (6, (dt (I n))), (9, (dt (I 1)))] []) (True ∧ True ∧ True) (by kernel_rfl) ⟨trivial, trivial, trivial⟩ ?_
          refine T_seq ?_
          refine T_reg [] [0, 1, 6, 9, 41] [] (mk 89 [(0, (dt (I a))), (1, (dt (.sl 1 (ws.map encI)))), (6, (dt (I n))), (9, (dt (I 1))), (41, (dt (B (decide (a < 0)))))] []) (True ∧ True ∧ True ∧ True ∧ True) (by kernel_rfl) ⟨trivial, trivial, trivial, trivial, trivial⟩ ?_
          refine T_cond (decide (a < 0)) (by kernel_rfl) (fun h22 => ?_) (fun h22 => ?_)
          · skip
            have g23 : a < 0 := of_decide_eq_true (h22)
            exact (by exfalso; have := chkM_cases a; have h0 := sumL_nil ws; first | omega | (have := sumL_end iv (by omega); omega))
          · skip
            have g24 : ¬ (a < 0) := of_decide_eq_false (h22)
            refine T_skip ?_
            refine T_reg [{}, {}, { d := some (I a) }] [1, 6, 9, 10] [] (mk 89 [(1, (dt (.sl 1 (ws.map encI)))), (6, (dt (I n))), (9, (dt (I 1))), (10, (.one (.ref 10 0)))] [(10, (.var [(.dat (I a))]))]) (True ∧ True ∧ True ∧ True ∧ True ∧ (IntKind.i64.wrap (1 * a) = a) ∧ True ∧ True ∧ True ∧ True ∧ True) (by kernel_rfl) ⟨trivial, trivial, trivial, trivial, trivial, (by rw [Int.one_mul]; exact (i64_wrap (by omega) (by omega))), trivial, trivial, trivial, trivial, trivial⟩ ?_
            refine T_seq (T_parts ?_)
            refine TL_arr 106 11 11 1 ((List.replicate 256 (0 : Int)).map encI) rfl rfl rfl (by kernel_rfl) (by kernel_rfl) (by decide) (by decide) ?_
            refine TL_turn [] [1, 6, 9, 10, 11] [] (mk 89 [(1, (dt (.sl 1 (ws.map encI)))), (6, (dt (I n))), (9, (dt (I 1))), (10, (.one (.ref 10 0))), (11, (.one (.rref 11 0 0)))] [(11, (.row 106 1 ((List.replicate 256 (0 : Int)).map encI))), (10, (.var [(.dat (I a))]))]) (by kernel_rfl) ?_
            refine TL_nilQ ?_
            refine T_turn [] [1, 6, 9, 10, 11] [] (mk 89 [(1, (dt (.sl 1 (ws.map encI)))), (6, (dt (I n))), (9, (dt (I 1))), (10, (.one (.ref 10 0))), (11, (.one (.rref 11 0 0)))] [(11, (.row 106 1 ((List.replicate 256 (0 : Int)).map encI))), (10, (.var [(.dat (I a))]))]) (by kernel_rfl) ?_
            refine T_reg [] [1, 6, 9, 10, 11, 12] [] (mk 89 [(1, (dt (.sl 1 (ws.map encI)))), (6, (dt (I n))), (9, (dt (I 1))), (10, (.one (.ref 10 0))), (11, (.one (.rref 11 0 0))), (12, (.one (.ref 12 0)))] [(12, (.var [(.dat nilS)])), (11, (.row 106 1 ((List.replicate 256 (0 : Int)).map encI))), (10, (.var [(.dat (I a))]))]) (True ∧ True ∧ True) (by kernel_rfl) ⟨trivial, trivial, trivial⟩ ?_
            refine T_seq ?_
            refine T_reg [{}, {}, {}, { d := some (.fn 84 [(.ptr [(.sl 1 (ws.map encI))]), (.ptr [(I a)]), (.ptr [(I n)])]) }] [1, 9, 10, 11, 12, 48] [] (mk 89 [(1, (dt (.sl 1 (ws.map encI)))), (9, (dt (I 1))), (10, (.one (.ref 10 0))), (11, (.one (.rref 11 0 0))), (12, (.one (.ref 12 0))), (48, (dt (.fn 84 [(.ptr [(.sl 1 (ws.map encI))]), (.ptr [(I a)]), (.ptr [(I n)])])))] [(12, (.var [(.dat nilS)])), (11, (.row 106 1 ((List.replicate 256 (0 : Int)).map encI))), (10, (.var [(.dat (I a))]))]) (True ∧ True ∧ True ∧ True ∧ True ∧ True ∧ True ∧ (Ret Try.prog 76 [(I a), (.sl 1 (ws.map encI)), (I n)] (.fn 84 [(.ptr [(.sl 1 (ws.map encI))]), (.ptr [(I a)]), (.ptr [(I n)])])) ∧ True) (by kernel_rfl) ⟨trivial, trivial, trivial, trivial, trivial, trivial, trivial, (ret_parts _ _ _), trivial⟩ ?_
            refine T_block ?_
            refine T_ownCell 12 0 142 112 3 (mk 89 [(1, (dt (.sl 1 (ws.map encI)))), (9, (dt (I 1))), (10, (.one (.ref 10 0))), (11, (.one (.rref 11 0 0))), (12, (.one (.ref 12 0))), (48, (dt (.fn 84 [(.ptr [(.sl 1 (ws.map encI))]), (.ptr [(I a)]), (.ptr [(I n)])])))] [(142, (.row 112 3 (([] : List Part).map encPart))), (12, (.var [(.own 142)])), (11, (.row 106 1 ((List.replicate 256 (0 : Int)).map encI))), (10, (.var [(.dat (I a))]))]) (by kernel_rfl) (by decide) ?_
            refine T_turn [] [1, 9, 10, 11, 12, 48] [] (mk 89 [(1, (dt (.sl 1 (ws.map encI)))), (9, (dt (I 1))), (10, (.one (.ref 10 0))), (11, (.one (.rref 11 0 0))), (12, (.one (.ref 12 0))), (48, (dt (.fn 84 [(.ptr [(.sl 1 (ws.map encI))]), (.ptr [(I a)]), (.ptr [(I n)])])))] [(142, (.row 112 3 (([] : List Part).map encPart))), (12, (.var [(.own 142)])), (11, (.row 106 1 ((List.replicate 256 (0 : Int)).map encI))), (10, (.var [(.dat (I (leftOf a ([] : List Part))))]))]) (by kernel_rfl) ?_
            refine T_range (α := Part) 89 84 [(.ptr [(.sl 1 (ws.map encI))]), (.ptr [(I a)]), (.ptr [(I n)])] valPart (fun x => (.agg [(.dat (I x.i)), (.dat (I x.c)), (.dat (I x.r))])) (partsOf a n ws) (fun pre => (mk 89 [(1, (dt (.sl 1 (ws.map encI)))), (9, (dt (I 1))), (10, (.one (.ref 10 0))), (11, (.one (.rref 11 0 0))), (12, (.one (.ref 12 0))), (48, (dt (.fn 84 [(.ptr [(.sl 1 (ws.map encI))]), (.ptr [(I a)]), (.ptr [(I n)])])))] [(142, (.row 112 3 (pre.map encPart))), (12, (.var [(.own 142)])), (11, (.row 106 1 ((List.replicate 256 (0 : Int)).map encI))), (10, (.var [(.dat (I (leftOf a pre)))]))])) _ (fun x w A M => part_rel x w A M) (by decide) rfl (fun pre _ => by kernel_rfl) (parts_iter a n ws (by have := sumL_end iv (by omega); omega) (by omega) ha ha2 hw hl) (fun r pre x hp25 => ?_) ?_
            · skip
              have hm := part_bounds2 ha ha2 (s := n) (by have := sumL_end iv (by omega); omega) hw hl (fun x hx => by have := le_sumL (fun y hy => (hw y hy).1) hx; have := sumL_end iv (by omega); omega) (prefix_mem hp25)
              have hpl := prefix_len hp25
              have hlf := leftOf_bounds ha ha2 (s := n) (by have := sumL_end iv (by omega); omega) hw hl (fun x hx => by have := le_sumL (fun y hy => (hw y hy).1) hx; have := sumL_end iv (by omega); omega) ((List.prefix_append _ _).trans hp25)
              have hpl2 := partsOf_length a n ws
              refine TI_region (by decide) (TL_turn [] [10, 12, 49] [] (mk 89 [(10, (.one (.ref 10 0))), (12, (.one (.ref 12 0))), (49, (.agg [(.dat (I x.i)), (.dat (I x.c)), (.dat (I x.r))]))] [(142, (.row 112 3 (pre.map encPart))), (12, (.var [(.own 142)])), (11, (.row 106 1 ((List.replicate 256 (0 : Int)).map encI))), (10, (.var [(.dat (I (leftOf a pre)))]))]) (by kernel_rfl) ?_)
              refine TL_part 2 [] (mk 89 [(10, (.one (.ref 10 0))), (12, (.one (.ref 12 0))), (13, (.one (.ref 102 0))), (49, (.agg [(.dat (I x.i)), (.dat (I x.c)), (.dat (I x.r))]))] [(102, (.var [(.dat (I x.i)), (.dat (I x.c)), (.dat (I x.r))])), (142, (.row 112 3 (pre.map encPart))), (12, (.var [(.own 142)])), (11, (.row 106 1 ((List.replicate 256 (0 : Int)).map encI))), (10, (.var [(.dat (I (leftOf a pre)))]))]) (True ∧ True ∧ True ∧ True ∧ True) (by kernel_rfl) ⟨trivial, trivial, trivial, trivial, trivial⟩ rfl ?_
              refine TL_nilQ ?_
              refine And.intro rfl ?_
              refine TI_block ?_
              refine TI_seq ?_
              refine TI_region (by decide) (TL_turn [] [10, 12, 13] [] (mk 89 [(10, (.one (.ref 10 0))), (12, (.one (.ref 12 0))), (13, (.one (.ref 102 0)))] [(102, (.var [(.dat (I x.i)), (.dat (I x.c)), (.dat (I x.r))])), (142, (.row 112 3 (pre.map encPart))), (12, (.var [(.own 142)])), (11, (.row 106 1 ((List.replicate 256 (0 : Int)).map encI))), (10, (.var [(.dat (I (leftOf a pre)))]))]) (by kernel_rfl) ?_)
              refine TL_part 5 [{}, {}, {}, { d := some (.sl 3 ((pre ++ [(⟨x.i, x.c, x.r⟩ : Part)]).map encPart)) }] (mk 89 [(10, (.one (.ref 10 0))), (12, (.one (.ref 12 0))), (13, (.one (.ref 102 0))), (51, (.agg [(.dat (I x.i)), (.dat (I x.c)), (.dat (I x.r))])), (52, (.one (.own 141))), (53, (.one (.own 142)))] [(142, (.row 112 3 ((pre ++ [(⟨x.i, x.c, x.r⟩ : Part)]).map encPart))), (141, (.row 112 3 ([(⟨x.i, x.c, x.r⟩ : Part)].map encPart))), (102, (.var [(.dat (I x.i)), (.dat (I x.c)), (.dat (I x.r))])), (12, (.var [(.own 142)])), (11, (.row 106 1 ((List.replicate 256 (0 : Int)).map encI))), (10, (.var [(.dat (I (leftOf a pre)))]))]) (True ∧ True ∧ True ∧ True ∧ True ∧ (dfill (fun i => some (i * 3, 3)) (List.replicate (1 * 3) .junk) [(0, [(.dat (I x.i)), (.dat (I x.c)), (.dat (I x.r))])] = some ((flat ([(⟨x.i, x.c, x.r⟩ : Part)].map encPart)).map .dat)) ∧ True ∧ (((pre.map encPart).length + ([(⟨x.i, x.c, x.r⟩ : Part)].map encPart).length) * 24 ≤ 140737488355328 ∧ cellsOne ([(⟨x.i, x.c, x.r⟩ : Part)].map encPart) ∧ (pre.map encPart) ++ [(⟨x.i, x.c, x.r⟩ : Part)].map encPart = (pre ++ [(⟨x.i, x.c, x.r⟩ : Part)]).map encPart) ∧ True ∧ True ∧ True) (by kernel_rfl) ⟨trivial, trivial, trivial, trivial, trivial, rfl, trivial, ⟨by simp only [List.length_map, List.length_nil, List.length_cons]; omega, encPart_one _, by simp⟩, trivial, trivial, trivial⟩ rfl ?_
              refine TL_nilQ ?_
              refine TI_region (by decide) (TL_turn [] [10, 13] [141] (mk 89 [(10, (.one (.ref 10 0))), (13, (.one (.ref 102 0)))] [(142, (.row 112 3 ((pre ++ [(⟨x.i, x.c, x.r⟩ : Part)]).map encPart))), (102, (.var [(.dat (I x.i)), (.dat (I x.c)), (.dat (I x.r))])), (12, (.var [(.own 142)])), (11, (.row 106 1 ((List.replicate 256 (0 : Int)).map encI))), (10, (.var [(.dat (I (leftOf a pre)))]))]) (by kernel_rfl) ?_)
              refine TL_part 5 [{}, {}, {}, { d := some (I ((leftOf a pre) - x.c)) }] (mk 89 [(10, (.one (.ref 10 0))), (13, (.one (.ref 102 0))), (54, (dt (I (leftOf a pre)))), (55, (.one (.ref 102 1))), (56, (dt (I x.c))), (57, (dt (I ((leftOf a pre) - x.c))))] [(142, (.row 112 3 ((pre ++ [(⟨x.i, x.c, x.r⟩ : Part)]).map encPart))), (102, (.var [(.dat (I x.i)), (.dat (I x.c)), (.dat (I x.r))])), (12, (.var [(.own 142)])), (11, (.row 106 1 ((List.replicate 256 (0 : Int)).map encI))), (10, (.var [(.dat (I ((leftOf a pre) - x.c)))]))]) (True ∧ True ∧ True ∧ True ∧ True ∧ True ∧ True ∧ (IntKind.i64.wrap ((leftOf a pre) - x.c) = ((leftOf a pre) - x.c)) ∧ True ∧ True ∧ True) (by kernel_rfl) ⟨trivial, trivial, trivial, trivial, trivial, trivial, trivial, (i64_wrap (by omega) (by omega)), trivial, trivial, trivial⟩ rfl ?_
              refine TL_nilQ ?_
              refine And.intro rfl ?_
              exact (le_turn (s' := (mk 89 [(1, (dt (.sl 1 (ws.map encI)))), (9, (dt (I 1))), (10, (.one (.ref 10 0))), (11, (.one (.rref 11 0 0))), (12, (.one (.ref 12 0))), (48, (dt (.fn 84 [(.ptr [(.sl 1 (ws.map encI))]), (.ptr [(I a)]), (.ptr [(I n)])])))] [(142, (.row 112 3 ((pre ++ [(⟨x.i, x.c, x.r⟩ : Part)]).map encPart))), (12, (.var [(.own 142)])), (11, (.row 106 1 ((List.replicate 256 (0 : Int)).map encI))), (10, (.var [(.dat (I ((leftOf a pre) - x.c)))]))])) [] [1, 9, 10, 11, 12, 48] [102] (by kernel_rfl)).trans (DS.le_of_eq (by simp only [leftOf_snoc]))
            refine T_seq (T_parts ?_)
            refine TL_part 1 [] (mk 89 [(1, (dt (.sl 1 (ws.map encI)))), (9, (dt (I 1))), (10, (.one (.ref 10 0))), (11, (.one (.rref 11 0 0))), (12, (.one (.ref 12 0))), (48, (dt (.fn 84 [(.ptr [(.sl 1 (ws.map encI))]), (.ptr [(I a)]), (.ptr [(I n)])]))), (58, (.one (.own 142)))] [(142, (.row 112 3 ((partsOf a n ws).map encPart))), (12, (.var [(.own 142)])), (11, (.row 106 1 ((List.replicate 256 (0 : Int)).map encI))), (10, (.var [(.dat (I (leftOf a (partsOf a n ws))))]))]) (True ∧ True ∧ True) (by kernel_rfl) ⟨trivial, trivial, trivial⟩ rfl ?_
            refine TL_sort (enc := encPart) (R := sortR) 77 78 112 3 sort_ok rfl rfl (by kernel_rfl) 142 (by kernel_rfl) (by kernel_rfl) (partsOf a n ws) (by kernel_rfl) (parts_ne hs) (by rw [partsOf_length]; omega) (fun _ => ⟨rfl, rfl⟩) (fun d26 hR27 hl28 => ?_)
            refine TL_turn [] [1, 9, 10, 11, 12, 59] [] (mk 89 [(1, (dt (.sl 1 (ws.map encI)))), (9, (dt (I 1))), (10, (.one (.ref 10 0))), (11, (.one (.rref 11 0 0))), (12, (.one (.ref 12 0))), (59, (dt (.tup [])))] [(142, (.row 112 3 (d26.map encPart))), (12, (.var [(.own 142)])), (11, (.row 106 1 ((List.replicate 256 (0 : Int)).map encI))), (10, (.var [(.dat (I (leftOf a (partsOf a n ws))))]))]) (by kernel_rfl) ?_
            refine TL_nilQ ?_
            refine T_turn [] [1, 9, 10, 11, 12] [] (mk 89 [(1, (dt (.sl 1 (ws.map encI)))), (9, (dt (I 1))), (10, (.one (.ref 10 0))), (11, (.one (.rref 11 0 0))), (12, (.one (.ref 12 0)))] [(142, (.row 112 3 (d26.map encPart))), (12, (.var [(.own 142)])), (11, (.row 106 1 ((List.replicate 256 (0 : Int)).map encI))), (10, (.var [(.dat (I (leftOf a (partsOf a n ws))))]))]) (by kernel_rfl) ?_
            refine T_seq ?_
            refine T_reg [{}, { d := some (I ((d26.length : Nat) : Int)) }] [1, 9, 10, 11, 60, 61, 62] [12] (mk 89 [(1, (dt (.sl 1 (ws.map encI)))), (9, (dt (I 1))), (10, (.one (.ref 10 0))), (11, (.one (.rref 11 0 0))), (60, (.one (.own 142))), (61, (dt (I ((d26.length : Nat) : Int)))), (62, (dt (I 0)))] [(142, (.row 112 3 (d26.map encPart))), (11, (.row 106 1 ((List.replicate 256 (0 : Int)).map encI))), (10, (.var [(.dat (I (leftOf a (partsOf a n ws))))]))]) (True ∧ True ∧ True ∧ (True ∧ D.int .i64 ((d26.map encPart).length : Int) = (I ((d26.length : Nat) : Int))) ∧ True ∧ True ∧ True) (by kernel_rfl) ⟨trivial, trivial, trivial, ⟨trivial, by rw [List.length_map]⟩, trivial, trivial, trivial⟩ ?_
            refine T_block ?_
            refine T_turn [] [1, 9, 10, 11, 60, 61, 62] [] ((fun ((k, cs) : Nat × List Int) => (mk 89 [(1, (dt (.sl 1 (ws.map encI)))), (9, (dt (I 1))), (10, (.one (.ref 10 0))), (11, (.one (.rref 11 0 0))), (60, (.one (.own 142))), (61, (dt (I ((d26.length : Nat) : Int)))), (62, (dt (I ((k : Nat) : Int))))] [(142, (.row 112 3 (d26.map encPart))), (11, (.row 106 1 (cs.map encI))), (10, (.var [(.dat (I (leftOf a (partsOf a n ws))))]))])) (0, (List.replicate 256 (0 : Int)))) (by kernel_rfl) (T_loop (α := Nat × List Int) (fun ((k, cs) : Nat × List Int) => (mk 89 [(1, (dt (.sl 1 (ws.map encI)))), (9, (dt (I 1))), (10, (.one (.ref 10 0))), (11, (.one (.rref 11 0 0))), (60, (.one (.own 142))), (61, (dt (I ((d26.length : Nat) : Int)))), (62, (dt (I ((k : Nat) : Int))))] [(142, (.row 112 3 (d26.map encPart))), (11, (.row 106 1 (cs.map encI))), (10, (.var [(.dat (I (leftOf a (partsOf a n ws))))]))])) (fun ((k, cs) : Nat × List Int) => (k ≤ d26.length) ∧ (cs.length = 256) ∧ (Filled (leftOf a (partsOf a n ws)) d26 k cs) ∧ True) (fun ((k, cs) : Nat × List Int) => d26.length - k) (0, (List.replicate 256 (0 : Int))) ⟨Nat.zero_le _, List.length_replicate, fill_start _ _ _, trivial⟩ ?_)
            rintro ⟨k, cs⟩ ⟨ik, ic, iv2, _⟩
            refine T_reg [] [1, 9, 10, 11, 60, 61, 62, 63] [] (mk 89 [(1, (dt (.sl 1 (ws.map encI)))), (9, (dt (I 1))), (10, (.one (.ref 10 0))), (11, (.one (.rref 11 0 0))), (60, (.one (.own 142))), (61, (dt (I ((d26.length : Nat) : Int)))), (62, (dt (I ((k : Nat) : Int)))), (63, (dt (B (decide (((k : Nat) : Int) < ((d26.length : Nat) : Int))))))] [(142, (.row 112 3 (d26.map encPart))), (11, (.row 106 1 (cs.map encI))), (10, (.var [(.dat (I (leftOf a (partsOf a n ws))))]))]) (True ∧ True ∧ True) (by kernel_rfl) ⟨trivial, trivial, trivial⟩ ?_
            refine T_seq ?_
            refine T_cond (decide (((k : Nat) : Int) < ((d26.length : Nat) : Int))) (by kernel_rfl) (fun h29 => ?_) (fun h29 => ?_)
            · skip
              have g30 : ((k : Nat) : Int) < ((d26.length : Nat) : Int) := of_decide_eq_true (h29)
              refine T_skip ?_
              refine T_seq ?_
              refine T_block ?_
              have lt31 : k < (d26).length := by first | omega | (simp only [List.length_set, List.length_map, List.length_append, List.length_cons, List.length_nil] at *; omega)
              obtain ⟨x32, hx33⟩ : ∃ x, (d26)[k]? = some x := ⟨_, List.getElem?_eq_getElem lt31⟩
              have hbx := part_bounds2 ha ha2 (s := n) (by have := sumL_end iv (by omega); omega) hw hl (fun x hx => by have := le_sumL (fun y hy => (hw y hy).1) hx; have := sumL_end iv (by omega); omega) (hR27.1.mem_iff.1 (List.mem_of_getElem? hx33))
              have hpl3 := partsOf_length a n ws
              have hlf3 := leftOf_bounds ha ha2 (s := n) (by have := sumL_end iv (by omega); omega) hw hl (fun x hx => by have := le_sumL (fun y hy => (hw y hy).1) hx; have := sumL_end iv (by omega); omega) (List.prefix_refl _)
              refine T_reg [{}, {}, { d := some (.agg [(I x32.i), (I x32.c), (I x32.r)]) }] [1, 9, 10, 11, 14, 15, 60, 61, 62] [] (mk 89 [(1, (dt (.sl 1 (ws.map encI)))), (9, (dt (I 1))), (10, (.one (.ref 10 0))), (11, (.one (.rref 11 0 0))), (14, (dt (I ((k : Nat) : Int)))), (15, (.one (.ref 15 0))), (60, (.one (.own 142))), (61, (dt (I ((d26.length : Nat) : Int)))), (62, (dt (I ((k : Nat) : Int))))] [(15, (.var [(.dat (I x32.i)), (.dat (I x32.c)), (.dat (I x32.r))])), (142, (.row 112 3 (d26.map encPart))), (11, (.row 106 1 (cs.map encI))), (10, (.var [(.dat (I (leftOf a (partsOf a n ws))))]))]) (True ∧ True ∧ True ∧ (0 ≤ ((k : Nat) : Int) ∧ ((k : Nat) : Int) < (((d26.map encPart).length : Nat) : Int)) ∧ True ∧ ((d26.map encPart)[k]? = some (.agg [(I x32.i), (I x32.c), (I x32.r)])) ∧ True ∧ True ∧ True ∧ True ∧ True ∧ True ∧ True) (by kernel_rfl) ⟨trivial, trivial, trivial, ⟨by omega, by rw [List.length_map]; first | omega | (simp only [List.length_append, List.length_set, List.length_map, List.length_cons, List.length_nil] at *; omega)⟩, trivial, (by rw [List.getElem?_map, hx33]; rfl), trivial, trivial, trivial, trivial, trivial, trivial, trivial⟩ ?_
              have lt34 : (x32.i).toNat < (cs).length := by first | omega | (simp only [List.length_set, List.length_map, List.length_append, List.length_cons, List.length_nil] at *; omega)
              obtain ⟨x35, hx36⟩ : ∃ x, (cs)[(x32.i).toNat]? = some x := ⟨_, List.getElem?_eq_getElem lt34⟩
              refine T_reg [{}, {}, {}, {}, {}, { d := some (I x32.c) }, {}, { d := some (.tup [(I x35), (.sl 1 ((cs.set (x32.i).toNat x32.c).map encI))]) }] [1, 9, 10, 11, 14, 15, 60, 61, 62] [] (mk 89 [(1, (dt (.sl 1 (ws.map encI)))), (9, (dt (I 1))), (10, (.one (.ref 10 0))), (11, (.one (.rref 11 0 0))), (14, (dt (I ((k : Nat) : Int)))), (15, (.one (.ref 15 0))), (60, (.one (.own 142))), (61, (dt (I ((d26.length : Nat) : Int)))), (62, (dt (I ((k : Nat) : Int))))] [(15, (.var [(.dat (I x32.i)), (.dat (I x32.c)), (.dat (I x32.r))])), (142, (.row 112 3 (d26.map encPart))), (11, (.row 106 1 ((cs.set (x32.i).toNat x32.c).map encI))), (10, (.var [(.dat (I (leftOf a (partsOf a n ws))))]))]) (True ∧ True ∧ True ∧ True ∧ True ∧ True ∧ True ∧ True ∧ True ∧ True ∧ True ∧ (IntKind.i64.wrap (1 * x32.c) = x32.c) ∧ True ∧ (0 ≤ x32.i ∧ x32.i < ((256 : Nat) : Int)) ∧ True ∧ ((cs.map encI)[(x32.i).toNat]? = some (I x35) ∧ (cs.map encI).set (x32.i).toNat (I x32.c) = (cs.set (x32.i).toNat x32.c).map encI) ∧ True) (by kernel_rfl) ⟨trivial, trivial, trivial, trivial, trivial, trivial, trivial, trivial, trivial, trivial, trivial, (by rw [Int.one_mul]; exact (i64_wrap (by omega) (by omega))), trivial, ⟨by omega, by omega⟩, trivial, ⟨by rw [List.getElem?_map, hx36]; rfl, by simp only [List.map_set]; first | done | rfl⟩, trivial⟩ ?_
              refine T_reg [] [1, 9, 10, 11, 15, 60, 61, 62, 76] [] (mk 89 [(1, (dt (.sl 1 (ws.map encI)))), (9, (dt (I 1))), (10, (.one (.ref 10 0))), (11, (.one (.rref 11 0 0))), (15, (.one (.ref 15 0))), (60, (.one (.own 142))), (61, (dt (I ((d26.length : Nat) : Int)))), (62, (dt (I ((k : Nat) : Int)))), (76, (dt (B (decide (((k : Nat) : Int) < (leftOf a (partsOf a n ws)))))))] [(15, (.var [(.dat (I x32.i)), (.dat (I x32.c)), (.dat (I x32.r))])), (142, (.row 112 3 (d26.map encPart))), (11, (.row 106 1 ((cs.set (x32.i).toNat x32.c).map encI))), (10, (.var [(.dat (I (leftOf a (partsOf a n ws))))]))]) (True ∧ True ∧ True ∧ True ∧ True ∧ True ∧ True) (by kernel_rfl) ⟨trivial, trivial, trivial, trivial, trivial, trivial, trivial⟩ ?_
              refine T_cond (decide (((k : Nat) : Int) < (leftOf a (partsOf a n ws)))) (by kernel_rfl) (fun h37 => ?_) (fun h37 => ?_)
              · skip
                have g38 : ((k : Nat) : Int) < (leftOf a (partsOf a n ws)) := of_decide_eq_true (h37)
                have hs39 : ((cs.set (x32.i).toNat x32.c))[(x32.i).toNat]? = some x32.c := by rw [List.getElem?_set_self (by omega)]
                refine T_regE [{}, {}, {}, { d := some (I x32.c) }, {}, { d := some (I (x32.c + 1)) }, {}, { d := some (.tup [(I x32.c), (.sl 1 (((cs.set (x32.i).toNat x32.c).set (x32.i).toNat (x32.c + 1)).map encI))]) }] (mk 89 [(1, (dt (.sl 1 (ws.map encI)))), (9, (dt (I 1))), (10, (.one (.ref 10 0))), (11, (.one (.rref 11 0 0))), (15, (.one (.ref 15 0))), (60, (.one (.own 142))), (61, (dt (I ((d26.length : Nat) : Int)))), (62, (dt (I ((k : Nat) : Int)))), (76, (dt (B (decide (((k : Nat) : Int) < (leftOf a (partsOf a n ws))))))), (77, (.one (.ref 15 0))), (78, (dt (I x32.i))), (79, (.one (.rref 11 (x32.i).toNat 0))), (80, (dt (I x32.c))), (81, (dt (I 1))), (82, (dt (I (x32.c + 1)))), (83, (.one (.rref 11 (x32.i).toNat 0)))] [(15, (.var [(.dat (I x32.i)), (.dat (I x32.c)), (.dat (I x32.r))])), (142, (.row 112 3 (d26.map encPart))), (11, (.row 106 1 (((cs.set (x32.i).toNat x32.c).set (x32.i).toNat (x32.c + 1)).map encI))), (10, (.var [(.dat (I (leftOf a (partsOf a n ws))))]))]) (True ∧ True ∧ True ∧ True ∧ True ∧ (0 ≤ x32.i ∧ x32.i < ((256 : Nat) : Int)) ∧ True ∧ (((cs.set (x32.i).toNat x32.c).map encI)[(x32.i).toNat]? = some (I x32.c)) ∧ True ∧ True ∧ True ∧ (IntKind.i64.wrap (x32.c + 1) = (x32.c + 1)) ∧ True ∧ (0 ≤ x32.i ∧ x32.i < ((256 : Nat) : Int)) ∧ True ∧ (((cs.set (x32.i).toNat x32.c).map encI)[(x32.i).toNat]? = some (I x32.c) ∧ ((cs.set (x32.i).toNat x32.c).map encI).set (x32.i).toNat (I (x32.c + 1)) = ((cs.set (x32.i).toNat x32.c).set (x32.i).toNat (x32.c + 1)).map encI) ∧ True) (by kernel_rfl) ⟨trivial, trivial, trivial, trivial, trivial, ⟨by omega, by omega⟩, trivial, (by rw [List.getElem?_map, hs39]; rfl), trivial, trivial, trivial, (i64_wrap (by omega) (by omega)), trivial, ⟨by omega, by omega⟩, trivial, ⟨by rw [List.getElem?_map, hs39]; rfl, by simp only [List.map_set]; first | done | rfl⟩, trivial⟩ ?_
                refine T_regE [{ d := some (I ((k + 1 : Nat) : Int)) }] (mk 89 [(1, (dt (.sl 1 (ws.map encI)))), (9, (dt (I 1))), (10, (.one (.ref 10 0))), (11, (.one (.rref 11 0 0))), (15, (.one (.ref 15 0))), (60, (.one (.own 142))), (61, (dt (I ((d26.length : Nat) : Int)))), (62, (dt (I ((k + 1 : Nat) : Int)))), (76, (dt (B (decide (((k : Nat) : Int) < (leftOf a (partsOf a n ws))))))), (77, (.one (.ref 15 0))), (78, (dt (I x32.i))), (79, (.one (.rref 11 (x32.i).toNat 0))), (80, (dt (I x32.c))), (81, (dt (I 1))), (82, (dt (I (x32.c + 1)))), (83, (.one (.rref 11 (x32.i).toNat 0))), (84, (dt (I ((k + 1 : Nat) : Int))))] [(15, (.var [(.dat (I x32.i)), (.dat (I x32.c)), (.dat (I x32.r))])), (142, (.row 112 3 (d26.map encPart))), (11, (.row 106 1 (((cs.set (x32.i).toNat x32.c).set (x32.i).toNat (x32.c + 1)).map encI))), (10, (.var [(.dat (I (leftOf a (partsOf a n ws))))]))]) (True ∧ (IntKind.i64.wrap (((k : Nat) : Int) + 1) = ((k + 1 : Nat) : Int)) ∧ True ∧ True ∧ True) (by kernel_rfl) ⟨trivial, (by rw [i64_wrap (by omega) (by omega)]; omega), trivial, trivial, trivial⟩ ?_
                refine Exists.intro (k + 1, ((cs.set (x32.i).toNat x32.c).set (x32.i).toNat (x32.c + 1))) ⟨⟨by omega, by simp only [List.length_set]; exact ic, by first | exact fill_more iv2 hR27 hx33 ic hl (by omega) | exact fill_less iv2 hR27 hx33 ic hl (by omega), trivial⟩, by first | omega | (dsimp only; omega), le_turn [] [1, 9, 10, 11, 60, 61, 62] [15] (by kernel_rfl)⟩
              · skip
                have g40 : ¬ (((k : Nat) : Int) < (leftOf a (partsOf a n ws))) := of_decide_eq_false (h37)
                refine T_skip ?_
                refine T_regE [{ d := some (I ((k + 1 : Nat) : Int)) }] (mk 89 [(1, (dt (.sl 1 (ws.map encI)))), (9, (dt (I 1))), (10, (.one (.ref 10 0))), (11, (.one (.rref 11 0 0))), (15, (.one (.ref 15 0))), (60, (.one (.own 142))), (61, (dt (I ((d26.length : Nat) : Int)))), (62, (dt (I ((k + 1 : Nat) : Int)))), (76, (dt (B (decide (((k : Nat) : Int) < (leftOf a (partsOf a n ws))))))), (84, (dt (I ((k + 1 : Nat) : Int))))] [(15, (.var [(.dat (I x32.i)), (.dat (I x32.c)), (.dat (I x32.r))])), (142, (.row 112 3 (d26.map encPart))), (11, (.row 106 1 ((cs.set (x32.i).toNat x32.c).map encI))), (10, (.var [(.dat (I (leftOf a (partsOf a n ws))))]))]) (True ∧ (IntKind.i64.wrap (((k : Nat) : Int) + 1) = ((k + 1 : Nat) : Int)) ∧ True ∧ True ∧ True) (by kernel_rfl) ⟨trivial, (by rw [i64_wrap (by omega) (by omega)]; omega), trivial, trivial, trivial⟩ ?_
                refine Exists.intro (k + 1, (cs.set (x32.i).toNat x32.c)) ⟨⟨by omega, by simp only [List.length_set]; exact ic, by first | exact fill_more iv2 hR27 hx33 ic hl (by omega) | exact fill_less iv2 hR27 hx33 ic hl (by omega), trivial⟩, by first | omega | (dsimp only; omega), le_turn [] [1, 9, 10, 11, 60, 61, 62] [15] (by kernel_rfl)⟩
            · skip
              have g41 : ¬ (((k : Nat) : Int) < ((d26.length : Nat) : Int)) := of_decide_eq_false (h29)
              refine T_exit ?_
              refine T_seq (T_parts ?_)
              refine TL_part 2 [{}, { d := some (I ((ws.length : Nat) : Int)) }] (mk 89 [(1, (dt (.sl 1 (ws.map encI)))), (9, (dt (I 1))), (10, (.one (.ref 10 0))), (11, (.one (.rref 11 0 0))), (60, (.one (.own 142))), (61, (dt (I ((d26.length : Nat) : Int)))), (62, (dt (I ((k : Nat) : Int)))), (63, (dt (B (decide (((k : Nat) : Int) < ((d26.length : Nat) : Int)))))), (85, (dt (.sl 1 (ws.map encI)))), (86, (dt (I ((ws.length : Nat) : Int))))] [(142, (.row 112 3 (d26.map encPart))), (11, (.row 106 1 (cs.map encI))), (10, (.var [(.dat (I (leftOf a (partsOf a n ws))))]))]) (True ∧ True ∧ True ∧ (True ∧ D.int .i64 ((ws.map encI).length : Int) = (I ((ws.length : Nat) : Int))) ∧ True) (by kernel_rfl) ⟨trivial, trivial, trivial, ⟨trivial, by rw [List.length_map]⟩, trivial⟩ rfl ?_
              refine TL_arrSlice 106 87 11 1 256 3 106 (cs.map encI) ((cs.take ws.length).map encI) _ _ (ws.length) rfl rfl rfl (by kernel_rfl) (by kernel_rfl) (by kernel_rfl) (by kernel_rfl) (by kernel_rfl) (by rw [List.length_map]; exact ic) (by decide) (by omega) (by rw [List.map_take]) ?_
              refine TL_turn [] [4, 5, 87, 88] [142, 10] (mk 89 [(87, (dt (.sl 1 ((cs.take ws.length).map encI))))] []) (by kernel_rfl) ?_
              refine TL_part 3 [{ d := some (.sl 1 ((cs.take ws.length).map encI)) }] (mk 89 [(4, (dt (.sl 1 ((cs.take ws.length).map encI)))), (5, (dt (I 0))), (87, (dt (.sl 1 ((cs.take ws.length).map encI)))), (88, (dt (.sl 1 ((cs.take ws.length).map encI))))] []) (True ∧ (Ret Try.prog 79 [(.sl 1 ((cs.take ws.length).map encI))] (.sl 1 ((cs.take ws.length).map encI))) ∧ True ∧ True ∧ True ∧ True ∧ True) (by kernel_rfl) ⟨trivial, (ret_cloneI _ (by simp only [List.length_take]; omega)), trivial, trivial, trivial, trivial, trivial⟩ rfl ?_
              refine TL_nilQ ?_
              refine T_turn [] [4, 5] [] (mk 89 [(4, (dt (.sl 1 ((cs.take ws.length).map encI)))), (5, (dt (I 0)))] []) (by kernel_rfl) ?_
              refine T_ret ?_
              exact ret_here [(dt (.sl 1 ((cs.take ws.length).map encI))), (dt (I 0))] (by kernel_rfl) ⟨(.inl (congrArg (fun l => D.sl 1 (l.map encI)) ((by rw [← sumL_end iv (by omega)]; exact filled_end iv2 (by assumption) ic hl (by omega)) : (cs.take ws.length) = (splitW a (sumL 0 ws) ws)))), (.inl rfl), trivial⟩

end Go.Proofs.Ytpkbecaailhhmaa

/-
  Walks at the data level, printed by gen.py: what each Go function returns, for data that reads as said. Conditions: those of each theorem.
-/
namespace Go.Proofs.Ytpkbecaailhhmaa
open Go.DL
set_option maxRecDepth 100000
set_option linter.unusedVariables false
set_option linter.unusedSimpArgs false
theorem ret_shares (f : Fee) (ht : f.t.length ≤ 140737488355328) : Ret Try.prog 48 [(.agg [(I f.a), (I f.p), (I f.m), (I f.s), (.sl 2 (f.t.map encTrain))])] (.tup [(.sl 2 ((shares f).map encPay)), (I (chk f))]) := by
  have hc := chk_cases f
  refine Ret.of_T Try.func48 (by kernel_rfl) rfl ?_
  refine T_turn [] [0] [] (mk 67 [(0, (.agg [(.dat (I f.a)), (.dat (I f.p)), (.dat (I f.m)), (.dat (I f.s)), (.dat (.sl 2 (f.t.map encTrain)))]))] []) (by kernel_rfl) ?_
  refine T_reg [] [1, 2] [] (mk 67 [(1, (.one (.ref 1 0))), (2, (dt nilS))] [(1, (.var [(.dat (I f.a)), (.dat (I f.p)), (.dat (I f.m)), (.dat (I f.s)), (.dat (.sl 2 (f.t.map encTrain)))]))]) (True ∧ True ∧ True ∧ True ∧ True ∧ True ∧ True) (by kernel_rfl) ⟨trivial, trivial, trivial, trivial, trivial, trivial, trivial⟩ ?_
  refine T_seq ?_
  refine T_reg [{}, { d := some (I (chk f)) }] [1, 2, 4] [] (mk 67 [(1, (.one (.ref 1 0))), (2, (dt nilS)), (4, (dt (I (chk f))))] [(1, (.var [(.dat (I f.a)), (.dat (I f.p)), (.dat (I f.m)), (.dat (I f.s)), (.dat (.sl 2 (f.t.map encTrain)))]))]) (True ∧ True ∧ True ∧ (Ret Try.prog 63 [(.agg [(I f.a), (I f.p), (I f.m), (I f.s), (.sl 2 (f.t.map encTrain))])] (I (chk f))) ∧ True ∧ True ∧ True) (by kernel_rfl) ⟨trivial, trivial, trivial, (ret_chk f ht), trivial, trivial, trivial⟩ ?_
  rcases Bool.eq_false_or_eq_true ((chk f) != 0) with h1 | h1
  · skip
    have g2 : (chk f) ≠ 0 := bne_iff_ne.1 (h1)
    refine T_reg [{}, {}, {}, { g := false }, { g := false }, { g := false }, { g := false }, { d := some (B true) }] [1, 2, 4, 20] [] (mk 67 [(1, (.one (.ref 1 0))), (2, (dt nilS)), (4, (dt (I (chk f)))), (20, (dt (B true)))] [(1, (.var [(.dat (I f.a)), (.dat (I f.p)), (.dat (I f.m)), (.dat (I f.s)), (.dat (.sl 2 (f.t.map encTrain)))]))]) (True ∧ True ∧ True ∧ True ∧ True ∧ True ∧ ((((chk f) != 0) == false) = false) ∧ ((((chk f) != 0) == false) = false) ∧ ((((chk f) != 0) == false) = false) ∧ ((((chk f) != 0) == false) = false) ∧ True ∧ (((chk f) != 0) = true) ∧ True) (by kernel_rfl) ⟨trivial, trivial, trivial, trivial, trivial, trivial, (by rw [show ((chk f) != 0) = true from h1]; rfl), (by rw [show ((chk f) != 0) = true from h1]; rfl), (by rw [show ((chk f) != 0) = true from h1]; rfl), (by rw [show ((chk f) != 0) = true from h1]; rfl), trivial, h1, trivial⟩ ?_
    refine T_cond true (by kernel_rfl) (fun _ => ?_) (fun h => absurd (h.symm.trans rfl) (by decide))
    refine T_reg [] [2, 3] [1] (mk 67 [(2, (dt nilS)), (3, (dt (I (chk f))))] []) (True ∧ True ∧ True ∧ True ∧ True ∧ True ∧ True) (by kernel_rfl) ⟨trivial, trivial, trivial, trivial, trivial, trivial, trivial⟩ ?_
    refine T_ret ?_
    exact ret_here [(dt nilS), (dt (I (chk f)))] (by kernel_rfl) ⟨(.inr ⟨rfl, 2, (by show D.sl _ _ = _; exact congrArg (fun l => D.sl 2 (l.map encPay)) (by first | (exact shares_bad (by omega); done) | (exact shares_nil (by omega); done) | (omega; done) | (rw [pick_end iv (by omega), shares_is (by assumption) (by assumption)]; done) | (exact ((pick_end iv (by omega)).trans (shares_is hc0 hwf)).symm; done) : (shares f) = []))⟩), (.inl rfl), trivial⟩
  · skip
    have g3 : (chk f) = 0 := bne_f (h1)
    refine T_reg [{}, {}, {}, {}, {}, { d := some (I ((f.t.length : Nat) : Int)) }, {}, { d := some (B false) }] [1, 2, 4, 20] [] (mk 67 [(1, (.one (.ref 1 0))), (2, (dt nilS)), (4, (dt (I (chk f)))), (20, (dt (B (((f.t.length : Nat) : Int) == 0))))] [(1, (.var [(.dat (I f.a)), (.dat (I f.p)), (.dat (I f.m)), (.dat (I f.s)), (.dat (.sl 2 (f.t.map encTrain)))]))]) (True ∧ True ∧ True ∧ True ∧ True ∧ True ∧ ((((chk f) != 0) == false) = true) ∧ True ∧ ((((chk f) != 0) == false) = true) ∧ True ∧ ((((chk f) != 0) == false) = true) ∧ (True ∧ D.int .i64 ((f.t.map encTrain).length : Int) = (I ((f.t.length : Nat) : Int))) ∧ ((((chk f) != 0) == false) = true) ∧ True ∧ True ∧ (((chk f) != 0) = false) ∧ True) (by kernel_rfl) ⟨trivial, trivial, trivial, trivial, trivial, trivial, (by rw [show ((chk f) != 0) = false from h1]; rfl), trivial, (by rw [show ((chk f) != 0) = false from h1]; rfl), trivial, (by rw [show ((chk f) != 0) = false from h1]; rfl), ⟨trivial, by rw [List.length_map]⟩, (by rw [show ((chk f) != 0) = false from h1]; rfl), trivial, trivial, h1, trivial⟩ ?_
    refine T_cond (((f.t.length : Nat) : Int) == 0) (by kernel_rfl) (fun h4 => ?_) (fun h4 => ?_)
    · skip
      have g5 : ((f.t.length : Nat) : Int) = 0 := eq_of_beq (h4)
      refine T_reg [] [2, 3] [1] (mk 67 [(2, (dt nilS)), (3, (dt (I (chk f))))] []) (True ∧ True ∧ True ∧ True ∧ True ∧ True ∧ True) (by kernel_rfl) ⟨trivial, trivial, trivial, trivial, trivial, trivial, trivial⟩ ?_
      refine T_ret ?_
      exact ret_here [(dt nilS), (dt (I (chk f)))] (by kernel_rfl) ⟨(.inr ⟨rfl, 2, (by show D.sl _ _ = _; exact congrArg (fun l => D.sl 2 (l.map encPay)) (by first | (exact shares_bad (by omega); done) | (exact shares_nil (by omega); done) | (omega; done) | (rw [pick_end iv (by omega), shares_is (by assumption) (by assumption)]; done) | (exact ((pick_end iv (by omega)).trans (shares_is hc0 hwf)).symm; done) : (shares f) = []))⟩), (.inl rfl), trivial⟩
    · skip
      have g6 : ((f.t.length : Nat) : Int) ≠ 0 := ne_of_beq_false (h4)
      refine T_skip ?_
      refine T_reg [] [1, 2, 5] [] (mk 67 [(1, (.one (.ref 1 0))), (2, (dt nilS)), (5, (dt nilS))] [(1, (.var [(.dat (I f.a)), (.dat (I f.p)), (.dat (I f.m)), (.dat (I f.s)), (.dat (.sl 2 (f.t.map encTrain)))]))]) (True ∧ True ∧ True) (by kernel_rfl) ⟨trivial, trivial, trivial⟩ ?_
      refine T_seq ?_
      refine T_reg [{}, {}, { d := some (I ((f.t.length : Nat) : Int)) }] [1, 2, 5, 23, 24, 25] [] (mk 67 [(1, (.one (.ref 1 0))), (2, (dt nilS)), (5, (dt nilS)), (23, (dt (.sl 2 (f.t.map encTrain)))), (24, (dt (I ((f.t.length : Nat) : Int)))), (25, (dt (I 0)))] [(1, (.var [(.dat (I f.a)), (.dat (I f.p)), (.dat (I f.m)), (.dat (I f.s)), (.dat (.sl 2 (f.t.map encTrain)))]))]) (True ∧ True ∧ True ∧ True ∧ True ∧ (True ∧ D.int .i64 ((f.t.map encTrain).length : Int) = (I ((f.t.length : Nat) : Int))) ∧ True ∧ True ∧ True) (by kernel_rfl) ⟨trivial, trivial, trivial, trivial, trivial, ⟨trivial, by rw [List.length_map]⟩, trivial, trivial, trivial⟩ ?_
      refine T_block ?_
      refine T_ownSlot 5 33 3 1 (mk 67 [(1, (.one (.ref 1 0))), (2, (dt nilS)), (5, (.one (.own 33))), (23, (dt (.sl 2 (f.t.map encTrain)))), (24, (dt (I ((f.t.length : Nat) : Int)))), (25, (dt (I 0)))] [(33, (.row 3 1 (([] : List Int).map encI))), (1, (.var [(.dat (I f.a)), (.dat (I f.p)), (.dat (I f.m)), (.dat (I f.s)), (.dat (.sl 2 (f.t.map encTrain)))]))]) (by kernel_rfl) (by decide) ?_
      refine T_turn [] [1, 2, 5, 23, 24, 25] [] ((fun ((k, w) : Nat × List Int) => (mk 67 [(1, (.one (.ref 1 0))), (2, (dt nilS)), (5, (.one (.own 33))), (23, (dt (.sl 2 (f.t.map encTrain)))), (24, (dt (I ((f.t.length : Nat) : Int)))), (25, (dt (I ((k : Nat) : Int))))] [(33, (.row 3 1 (w.map encI))), (1, (.var [(.dat (I f.a)), (.dat (I f.p)), (.dat (I f.m)), (.dat (I f.s)), (.dat (.sl 2 (f.t.map encTrain)))]))])) (0, ([] : List Int))) (by kernel_rfl) (T_loop (α := Nat × List Int) (fun ((k, w) : Nat × List Int) => (mk 67 [(1, (.one (.ref 1 0))), (2, (dt nilS)), (5, (.one (.own 33))), (23, (dt (.sl 2 (f.t.map encTrain)))), (24, (dt (I ((f.t.length : Nat) : Int)))), (25, (dt (I ((k : Nat) : Int))))] [(33, (.row 3 1 (w.map encI))), (1, (.var [(.dat (I f.a)), (.dat (I f.p)), (.dat (I f.m)), (.dat (I f.s)), (.dat (.sl 2 (f.t.map encTrain)))]))])) (fun ((k, w) : Nat × List Int) => (k ≤ f.t.length) ∧ (w = (f.t.take k).map (·.s)) ∧ True) (fun ((k, w) : Nat × List Int) => f.t.length - k) (0, ([] : List Int)) ⟨Nat.zero_le _, rfl, trivial⟩ ?_)
      rintro ⟨k, w⟩ ⟨ik, iw, _⟩
      have hl40 : f.t.length ≤ 40 := chk_len (by omega)
      have hwl : w.length = k := by rw [iw, List.length_map, List.length_take]; omega
      refine T_reg [] [1, 2, 5, 23, 24, 25, 26] [] (mk 67 [(1, (.one (.ref 1 0))), (2, (dt nilS)), (5, (.one (.own 33))), (23, (dt (.sl 2 (f.t.map encTrain)))), (24, (dt (I ((f.t.length : Nat) : Int)))), (25, (dt (I ((k : Nat) : Int)))), (26, (dt (B (decide (((k : Nat) : Int) < ((f.t.length : Nat) : Int))))))] [(33, (.row 3 1 (w.map encI))), (1, (.var [(.dat (I f.a)), (.dat (I f.p)), (.dat (I f.m)), (.dat (I f.s)), (.dat (.sl 2 (f.t.map encTrain)))]))]) (True ∧ True ∧ True) (by kernel_rfl) ⟨trivial, trivial, trivial⟩ ?_
      refine T_seq ?_
      refine T_cond (decide (((k : Nat) : Int) < ((f.t.length : Nat) : Int))) (by kernel_rfl) (fun h7 => ?_) (fun h7 => ?_)
      · skip
        have g8 : ((k : Nat) : Int) < ((f.t.length : Nat) : Int) := of_decide_eq_true (h7)
        refine T_skip ?_
        refine T_seq ?_
        refine T_block ?_
        have lt9 : k < (f.t).length := by first | omega | (simp only [List.length_set, List.length_map, List.length_append, List.length_cons, List.length_nil] at *; omega)
        obtain ⟨x10, hx11⟩ : ∃ x, (f.t)[k]? = some x := ⟨_, List.getElem?_eq_getElem lt9⟩
        refine T_reg [{ d := some (.agg [(I x10.c), (I x10.s)]) }] [1, 2, 5, 7, 23, 24, 25] [] (mk 67 [(1, (.one (.ref 1 0))), (2, (dt nilS)), (5, (.one (.own 33))), (7, (.one (.ref 7 0))), (23, (dt (.sl 2 (f.t.map encTrain)))), (24, (dt (I ((f.t.length : Nat) : Int)))), (25, (dt (I ((k : Nat) : Int))))] [(7, (.var [(.dat (I x10.c)), (.dat (I x10.s))])), (33, (.row 3 1 (w.map encI))), (1, (.var [(.dat (I f.a)), (.dat (I f.p)), (.dat (I f.m)), (.dat (I f.s)), (.dat (.sl 2 (f.t.map encTrain)))]))]) (True ∧ (0 ≤ ((k : Nat) : Int) ∧ (f.t.map encTrain)[k]? = some (.agg [(I x10.c), (I x10.s)])) ∧ True ∧ True ∧ True ∧ True ∧ True ∧ True ∧ True) (by kernel_rfl) ⟨trivial, ⟨by omega, by rw [List.getElem?_map, hx11]; rfl⟩, trivial, trivial, trivial, trivial, trivial, trivial, trivial⟩ ?_
        refine T_regE [{}, {}, {}, {}, { d := some (.sl 1 ((w ++ [x10.s]).map encI)) }] (mk 67 [(1, (.one (.ref 1 0))), (2, (dt nilS)), (5, (.one (.own 33))), (7, (.one (.ref 7 0))), (23, (dt (.sl 2 (f.t.map encTrain)))), (24, (dt (I ((f.t.length : Nat) : Int)))), (25, (dt (I ((k : Nat) : Int)))), (30, (.one (.ref 7 1))), (31, (dt (I x10.s))), (32, (.one (.own 32))), (33, (.one (.own 33)))] [(33, (.row 3 1 ((w ++ [x10.s]).map encI))), (32, (.row 3 1 ([x10.s].map encI))), (7, (.var [(.dat (I x10.c)), (.dat (I x10.s))])), (1, (.var [(.dat (I f.a)), (.dat (I f.p)), (.dat (I f.m)), (.dat (I f.s)), (.dat (.sl 2 (f.t.map encTrain)))]))]) (True ∧ True ∧ True ∧ True ∧ True ∧ True ∧ True ∧ (dfill (fun i => some (i * 1, 1)) (List.replicate (1 * 1) .junk) [(0, [(.dat (I x10.s))])] = some ((flat ([x10.s].map encI)).map .dat)) ∧ True ∧ (((w.map encI).length + ([x10.s].map encI).length) * 8 ≤ 140737488355328 ∧ cellsOne ([x10.s].map encI) ∧ (w.map encI) ++ [x10.s].map encI = (w ++ [x10.s]).map encI) ∧ True ∧ True ∧ True) (by kernel_rfl) ⟨trivial, trivial, trivial, trivial, trivial, trivial, trivial, rfl, trivial, ⟨by simp only [List.length_map, List.length_nil, List.length_cons]; omega, encI_one _, by simp⟩, trivial, trivial, trivial⟩ ?_
        refine T_regE [{ d := some (I ((k + 1 : Nat) : Int)) }] (mk 67 [(1, (.one (.ref 1 0))), (2, (dt nilS)), (5, (.one (.own 33))), (7, (.one (.ref 7 0))), (23, (dt (.sl 2 (f.t.map encTrain)))), (24, (dt (I ((f.t.length : Nat) : Int)))), (25, (dt (I ((k + 1 : Nat) : Int)))), (30, (.one (.ref 7 1))), (31, (dt (I x10.s))), (32, (.one (.own 32))), (33, (.one (.own 33))), (34, (dt (I ((k + 1 : Nat) : Int))))] [(33, (.row 3 1 ((w ++ [x10.s]).map encI))), (32, (.row 3 1 ([x10.s].map encI))), (7, (.var [(.dat (I x10.c)), (.dat (I x10.s))])), (1, (.var [(.dat (I f.a)), (.dat (I f.p)), (.dat (I f.m)), (.dat (I f.s)), (.dat (.sl 2 (f.t.map encTrain)))]))]) (True ∧ (IntKind.i64.wrap (((k : Nat) : Int) + 1) = ((k + 1 : Nat) : Int)) ∧ True ∧ True ∧ True) (by kernel_rfl) ⟨trivial, (by rw [i64_wrap (by omega) (by omega)]; omega), trivial, trivial, trivial⟩ ?_
        refine Exists.intro (k + 1, (w ++ [x10.s])) ⟨⟨by omega, by rw [iw, take_snoc hx11, List.map_append]; rfl, trivial⟩, by first | omega | (dsimp only; omega), le_turn [] [1, 2, 5, 23, 24, 25] [32, 7] (by kernel_rfl)⟩
      · skip
        have g12 : ¬ (((k : Nat) : Int) < ((f.t.length : Nat) : Int)) := of_decide_eq_false (h7)
        refine T_exit ?_
        have hwf : w = wsOf f := by rw [iw, List.take_of_length_le (by omega)]; rfl
        have hc0 : chk f = 0 := by omega
        have hsp : SplitPre (solid f) w := by rw [hwf]; exact split_pre hc0 (by omega)
        have hPl : (splitW (solid f) (sumL 0 w) w).length = f.t.length := by rw [splitW_length, hwf, wsOf, List.length_map]
        refine T_seq (T_parts ?_)
        refine TL_part 3 [{}, { d := some (I (solid f)) }] (mk 67 [(1, (.one (.ref 1 0))), (2, (dt nilS)), (5, (.one (.own 33))), (23, (dt (.sl 2 (f.t.map encTrain)))), (24, (dt (I ((f.t.length : Nat) : Int)))), (25, (dt (I ((k : Nat) : Int)))), (26, (dt (B (decide (((k : Nat) : Int) < ((f.t.length : Nat) : Int)))))), (36, (.agg [(.dat (I f.a)), (.dat (I f.p)), (.dat (I f.m)), (.dat (I f.s)), (.dat (.sl 2 (f.t.map encTrain)))])), (37, (dt (I (solid f)))), (38, (.one (.own 33)))] [(33, (.row 3 1 (w.map encI))), (1, (.var [(.dat (I f.a)), (.dat (I f.p)), (.dat (I f.m)), (.dat (I f.s)), (.dat (.sl 2 (f.t.map encTrain)))]))]) (True ∧ True ∧ True ∧ (Ret Try.prog 65 [(.agg [(I f.a), (I f.p), (I f.m), (I f.s), (.sl 2 (f.t.map encTrain))])] (I (solid f))) ∧ True ∧ True ∧ True) (by kernel_rfl) ⟨trivial, trivial, trivial, (ret_solid f ht), trivial, trivial, trivial⟩ rfl ?_
        refine TL_turn [33] [1, 2, 5, 23, 24, 25, 26, 36, 37, 38] [] (mk 67 [(1, (.one (.ref 1 0))), (2, (dt nilS)), (5, (dt (.sl 1 (w.map encI)))), (23, (dt (.sl 2 (f.t.map encTrain)))), (24, (dt (I ((f.t.length : Nat) : Int)))), (25, (dt (I ((k : Nat) : Int)))), (26, (dt (B (decide (((k : Nat) : Int) < ((f.t.length : Nat) : Int)))))), (36, (.agg [(.dat (I f.a)), (.dat (I f.p)), (.dat (I f.m)), (.dat (I f.s)), (.dat (.sl 2 (f.t.map encTrain)))])), (37, (dt (I (solid f)))), (38, (dt (.sl 1 (w.map encI))))] [(1, (.var [(.dat (I f.a)), (.dat (I f.p)), (.dat (I f.m)), (.dat (I f.s)), (.dat (.sl 2 (f.t.map encTrain)))]))]) (by kernel_rfl) ?_
        refine TL_part 6 [{ d := some (.tup [(.sl 1 ((splitW (solid f) (sumL 0 w) w).map encI)), (I 0)]) }] (mk 67 [(1, (.one (.ref 1 0))), (2, (dt nilS)), (3, (dt (I 0))), (5, (dt (.sl 1 (w.map encI)))), (8, (dt (.sl 1 ((splitW (solid f) (sumL 0 w) w).map encI)))), (23, (dt (.sl 2 (f.t.map encTrain)))), (24, (dt (I ((f.t.length : Nat) : Int)))), (25, (dt (I ((k : Nat) : Int)))), (26, (dt (B (decide (((k : Nat) : Int) < ((f.t.length : Nat) : Int)))))), (35, (.tup [(false, [(.dat (.sl 1 ((splitW (solid f) (sumL 0 w) w).map encI)))]), (false, [(.dat (I 0))])])), (36, (.agg [(.dat (I f.a)), (.dat (I f.p)), (.dat (I f.m)), (.dat (I f.s)), (.dat (.sl 2 (f.t.map encTrain)))])), (37, (dt (I (solid f)))), (38, (dt (.sl 1 (w.map encI)))), (39, (.tup [(false, [(.dat (.sl 1 ((splitW (solid f) (sumL 0 w) w).map encI)))]), (false, [(.dat (I 0))])])), (40, (dt (.sl 1 ((splitW (solid f) (sumL 0 w) w).map encI)))), (41, (dt (I 0)))] [(1, (.var [(.dat (I f.a)), (.dat (I f.p)), (.dat (I f.m)), (.dat (I f.s)), (.dat (.sl 2 (f.t.map encTrain)))]))]) (True ∧ (Ret Try.prog 64 [(I (solid f)), (.sl 1 (w.map encI))] (.tup [(.sl 1 ((splitW (solid f) (sumL 0 w) w).map encI)), (I 0)])) ∧ True ∧ True ∧ True ∧ True ∧ True ∧ True ∧ True ∧ True ∧ True ∧ True ∧ True) (by kernel_rfl) ⟨trivial, (ret_split _ _ hsp.ha hsp.ha2 hsp.hw hsp.hl hsp.hs), trivial, trivial, trivial, trivial, trivial, trivial, trivial, trivial, trivial, trivial, trivial⟩ rfl ?_
        refine TL_nilQ ?_
        refine T_turn [] [1, 2, 3, 8] [] (mk 67 [(1, (.one (.ref 1 0))), (2, (dt nilS)), (3, (dt (I 0))), (8, (dt (.sl 1 ((splitW (solid f) (sumL 0 w) w).map encI))))] [(1, (.var [(.dat (I f.a)), (.dat (I f.p)), (.dat (I f.m)), (.dat (I f.s)), (.dat (.sl 2 (f.t.map encTrain)))]))]) (by kernel_rfl) ?_
        refine T_seq ?_
        refine T_reg [] [1, 2, 3, 8, 43] [] (mk 67 [(1, (.one (.ref 1 0))), (2, (dt nilS)), (3, (dt (I 0))), (8, (dt (.sl 1 ((splitW (solid f) (sumL 0 w) w).map encI)))), (43, (dt (B false)))] [(1, (.var [(.dat (I f.a)), (.dat (I f.p)), (.dat (I f.m)), (.dat (I f.s)), (.dat (.sl 2 (f.t.map encTrain)))]))]) (True ∧ True ∧ True ∧ True ∧ True) (by kernel_rfl) ⟨trivial, trivial, trivial, trivial, trivial⟩ ?_
        refine T_cond false (by kernel_rfl) (fun h => absurd (h.symm.trans rfl) (by decide)) (fun _ => ?_)
        refine T_skip ?_
        refine T_seq ?_
        refine T_reg [{}, { d := some (I (((splitW (solid f) (sumL 0 w) w).length : Nat) : Int)) }] [1, 2, 45, 46, 47] [] (mk 67 [(1, (.one (.ref 1 0))), (2, (dt nilS)), (45, (dt (.sl 1 ((splitW (solid f) (sumL 0 w) w).map encI)))), (46, (dt (I (((splitW (solid f) (sumL 0 w) w).length : Nat) : Int)))), (47, (dt (I 0)))] [(1, (.var [(.dat (I f.a)), (.dat (I f.p)), (.dat (I f.m)), (.dat (I f.s)), (.dat (.sl 2 (f.t.map encTrain)))]))]) (True ∧ True ∧ True ∧ (True ∧ D.int .i64 (((splitW (solid f) (sumL 0 w) w).map encI).length : Int) = (I (((splitW (solid f) (sumL 0 w) w).length : Nat) : Int))) ∧ True ∧ True ∧ True) (by kernel_rfl) ⟨trivial, trivial, trivial, ⟨trivial, by rw [List.length_map]⟩, trivial, trivial, trivial⟩ ?_
        refine T_block ?_
        refine T_ownSlot 2 64 51 2 (mk 67 [(1, (.one (.ref 1 0))), (2, (.one (.own 64))), (45, (dt (.sl 1 ((splitW (solid f) (sumL 0 w) w).map encI)))), (46, (dt (I (((splitW (solid f) (sumL 0 w) w).length : Nat) : Int)))), (47, (dt (I 0)))] [(64, (.row 51 2 (([] : List Pay).map encPay))), (1, (.var [(.dat (I f.a)), (.dat (I f.p)), (.dat (I f.m)), (.dat (I f.s)), (.dat (.sl 2 (f.t.map encTrain)))]))]) (by kernel_rfl) (by decide) ?_
        refine T_turn [] [1, 2, 45, 46, 47] [] ((fun ((k, o) : Nat × List Pay) => (mk 67 [(1, (.one (.ref 1 0))), (2, (.one (.own 64))), (45, (dt (.sl 1 ((splitW (solid f) (sumL 0 w) w).map encI)))), (46, (dt (I (((splitW (solid f) (sumL 0 w) w).length : Nat) : Int)))), (47, (dt (I ((k : Nat) : Int))))] [(64, (.row 51 2 (o.map encPay))), (1, (.var [(.dat (I f.a)), (.dat (I f.p)), (.dat (I f.m)), (.dat (I f.s)), (.dat (.sl 2 (f.t.map encTrain)))]))])) (0, ([] : List Pay))) (by kernel_rfl) (T_loop (α := Nat × List Pay) (fun ((k, o) : Nat × List Pay) => (mk 67 [(1, (.one (.ref 1 0))), (2, (.one (.own 64))), (45, (dt (.sl 1 ((splitW (solid f) (sumL 0 w) w).map encI)))), (46, (dt (I (((splitW (solid f) (sumL 0 w) w).length : Nat) : Int)))), (47, (dt (I ((k : Nat) : Int))))] [(64, (.row 51 2 (o.map encPay))), (1, (.var [(.dat (I f.a)), (.dat (I f.p)), (.dat (I f.m)), (.dat (I f.s)), (.dat (.sl 2 (f.t.map encTrain)))]))])) (fun ((k, o) : Nat × List Pay) => (k ≤ (splitW (solid f) (sumL 0 w) w).length) ∧ (o.length ≤ k) ∧ (o ++ pickPos (f.t.drop k) ((splitW (solid f) (sumL 0 w) w).drop k) = pickPos f.t (splitW (solid f) (sumL 0 w) w)) ∧ True) (fun ((k, o) : Nat × List Pay) => (splitW (solid f) (sumL 0 w) w).length - k) (0, ([] : List Pay)) ⟨Nat.zero_le _, Nat.le_refl _, rfl, trivial⟩ ?_)
        rintro ⟨k, o⟩ ⟨ik, iol, iv, _⟩
        refine T_reg [] [1, 2, 45, 46, 47, 48] [] (mk 67 [(1, (.one (.ref 1 0))), (2, (.one (.own 64))), (45, (dt (.sl 1 ((splitW (solid f) (sumL 0 w) w).map encI)))), (46, (dt (I (((splitW (solid f) (sumL 0 w) w).length : Nat) : Int)))), (47, (dt (I ((k : Nat) : Int)))), (48, (dt (B (decide (((k : Nat) : Int) < (((splitW (solid f) (sumL 0 w) w).length : Nat) : Int))))))] [(64, (.row 51 2 (o.map encPay))), (1, (.var [(.dat (I f.a)), (.dat (I f.p)), (.dat (I f.m)), (.dat (I f.s)), (.dat (.sl 2 (f.t.map encTrain)))]))]) (True ∧ True ∧ True) (by kernel_rfl) ⟨trivial, trivial, trivial⟩ ?_
        refine T_seq ?_
        refine T_cond (decide (((k : Nat) : Int) < (((splitW (solid f) (sumL 0 w) w).length : Nat) : Int))) (by kernel_rfl) (fun h13 => ?_) (fun h13 => ?_)
        · skip
          have g14 : ((k : Nat) : Int) < (((splitW (solid f) (sumL 0 w) w).length : Nat) : Int) := of_decide_eq_true (h13)
          refine T_skip ?_
          refine T_seq ?_
          refine T_block ?_
          have lt15 : k < ((splitW (solid f) (sumL 0 w) w)).length := by first | omega | (simp only [List.length_set, List.length_map, List.length_append, List.length_cons, List.length_nil] at *; omega)
          obtain ⟨x16, hx17⟩ : ∃ x, ((splitW (solid f) (sumL 0 w) w))[k]? = some x := ⟨_, List.getElem?_eq_getElem lt15⟩
          refine T_reg [{}, { d := some (I x16) }] [1, 2, 9, 10, 45, 46, 47] [] (mk 67 [(1, (.one (.ref 1 0))), (2, (.one (.own 64))), (9, (dt (I ((k : Nat) : Int)))), (10, (dt (I x16))), (45, (dt (.sl 1 ((splitW (solid f) (sumL 0 w) w).map encI)))), (46, (dt (I (((splitW (solid f) (sumL 0 w) w).length : Nat) : Int)))), (47, (dt (I ((k : Nat) : Int))))] [(64, (.row 51 2 (o.map encPay))), (1, (.var [(.dat (I f.a)), (.dat (I f.p)), (.dat (I f.m)), (.dat (I f.s)), (.dat (.sl 2 (f.t.map encTrain)))]))]) (True ∧ True ∧ True ∧ (0 ≤ ((k : Nat) : Int) ∧ ((splitW (solid f) (sumL 0 w) w).map encI)[k]? = some (I x16)) ∧ True ∧ True ∧ True ∧ True ∧ True ∧ True ∧ True) (by kernel_rfl) ⟨trivial, trivial, trivial, ⟨by omega, by rw [List.getElem?_map, hx17]; rfl⟩, trivial, trivial, trivial, trivial, trivial, trivial, trivial⟩ ?_
          refine T_reg [] [1, 2, 9, 10, 45, 46, 47, 53] [] (mk 67 [(1, (.one (.ref 1 0))), (2, (.one (.own 64))), (9, (dt (I ((k : Nat) : Int)))), (10, (dt (I x16))), (45, (dt (.sl 1 ((splitW (solid f) (sumL 0 w) w).map encI)))), (46, (dt (I (((splitW (solid f) (sumL 0 w) w).length : Nat) : Int)))), (47, (dt (I ((k : Nat) : Int)))), (53, (dt (B (decide (x16 > 0)))))] [(64, (.row 51 2 (o.map encPay))), (1, (.var [(.dat (I f.a)), (.dat (I f.p)), (.dat (I f.m)), (.dat (I f.s)), (.dat (.sl 2 (f.t.map encTrain)))]))]) (True ∧ True ∧ True ∧ True ∧ True) (by kernel_rfl) ⟨trivial, trivial, trivial, trivial, trivial⟩ ?_
          refine T_cond (decide (x16 > 0)) (by kernel_rfl) (fun h18 => ?_) (fun h18 => ?_)
          · skip
            have g19 : x16 > 0 := of_decide_eq_true (h18)
            have lt20 : k < (f.t).length := by first | omega | (simp only [List.length_set, List.length_map, List.length_append, List.length_cons, List.length_nil] at *; omega)
            obtain ⟨x21, hx22⟩ : ∃ x, (f.t)[k]? = some x := ⟨_, List.getElem?_eq_getElem lt20⟩
            refine T_regE [{}, {}, {}, {}, { d := some (.agg [(I x21.c), (I x21.s)]) }, {}, {}, {}, {}, {}, { d := some (.sl 2 ((o ++ [(⟨x21.c, x16⟩ : Pay)]).map encPay)) }] (mk 67 [(1, (.one (.ref 1 0))), (2, (.one (.own 64))), (9, (dt (I ((k : Nat) : Int)))), (10, (dt (I x16))), (45, (dt (.sl 1 ((splitW (solid f) (sumL 0 w) w).map encI)))), (46, (dt (I (((splitW (solid f) (sumL 0 w) w).length : Nat) : Int)))), (47, (dt (I ((k : Nat) : Int)))), (53, (dt (B (decide (x16 > 0))))), (55, (.one (.ref 1 4))), (56, (dt (.sl 2 (f.t.map encTrain)))), (57, (dt (I ((k : Nat) : Int)))), (58, (dt (.ptr [(I x21.c), (I x21.s)]))), (59, (dt (.ptr [(I x21.c), (I x21.s)]))), (60, (dt (I x21.c))), (61, (dt (I x16))), (62, (.agg [(.dat (I x21.c)), (.dat (I x16))])), (63, (.one (.own 63))), (64, (.one (.own 64)))] [(64, (.row 51 2 ((o ++ [(⟨x21.c, x16⟩ : Pay)]).map encPay))), (63, (.row 51 2 ([(⟨x21.c, x16⟩ : Pay)].map encPay))), (1, (.var [(.dat (I f.a)), (.dat (I f.p)), (.dat (I f.m)), (.dat (I f.s)), (.dat (.sl 2 (f.t.map encTrain)))]))]) (True ∧ True ∧ True ∧ True ∧ True ∧ True ∧ True ∧ True ∧ True ∧ (0 ≤ ((k : Nat) : Int) ∧ (f.t.map encTrain)[k]? = some (.agg [(I x21.c), (I x21.s)])) ∧ True ∧ True ∧ True ∧ True ∧ True ∧ True ∧ True ∧ True ∧ True ∧ (dfill (fun i => some (i * 2, 2)) (List.replicate (1 * 2) .junk) [(0, [(.dat (I x21.c)), (.dat (I x16))])] = some ((flat ([(⟨x21.c, x16⟩ : Pay)].map encPay)).map .dat)) ∧ True ∧ (((o.map encPay).length + ([(⟨x21.c, x16⟩ : Pay)].map encPay).length) * 16 ≤ 140737488355328 ∧ cellsOne ([(⟨x21.c, x16⟩ : Pay)].map encPay) ∧ (o.map encPay) ++ [(⟨x21.c, x16⟩ : Pay)].map encPay = (o ++ [(⟨x21.c, x16⟩ : Pay)]).map encPay) ∧ True ∧ True ∧ True) (by kernel_rfl) ⟨trivial, trivial, trivial, trivial, trivial, trivial, trivial, trivial, trivial, ⟨by omega, by rw [List.getElem?_map, hx22]; rfl⟩, trivial, trivial, trivial, trivial, trivial, trivial, trivial, trivial, trivial, rfl, trivial, ⟨by simp only [List.length_map, List.length_nil, List.length_cons]; omega, encPay_one _, by simp⟩, trivial, trivial, trivial⟩ ?_
            refine T_regE [{ d := some (I ((k + 1 : Nat) : Int)) }] (mk 67 [(1, (.one (.ref 1 0))), (2, (.one (.own 64))), (9, (dt (I ((k : Nat) : Int)))), (10, (dt (I x16))), (45, (dt (.sl 1 ((splitW (solid f) (sumL 0 w) w).map encI)))), (46, (dt (I (((splitW (solid f) (sumL 0 w) w).length : Nat) : Int)))), (47, (dt (I ((k + 1 : Nat) : Int)))), (53, (dt (B (decide (x16 > 0))))), (55, (.one (.ref 1 4))), (56, (dt (.sl 2 (f.t.map encTrain)))), (57, (dt (I ((k : Nat) : Int)))), (58, (dt (.ptr [(I x21.c), (I x21.s)]))), (59, (dt (.ptr [(I x21.c), (I x21.s)]))), (60, (dt (I x21.c))), (61, (dt (I x16))), (62, (.agg [(.dat (I x21.c)), (.dat (I x16))])), (63, (.one (.own 63))), (64, (.one (.own 64))), (65, (dt (I ((k + 1 : Nat) : Int))))] [(64, (.row 51 2 ((o ++ [(⟨x21.c, x16⟩ : Pay)]).map encPay))), (63, (.row 51 2 ([(⟨x21.c, x16⟩ : Pay)].map encPay))), (1, (.var [(.dat (I f.a)), (.dat (I f.p)), (.dat (I f.m)), (.dat (I f.s)), (.dat (.sl 2 (f.t.map encTrain)))]))]) (True ∧ (IntKind.i64.wrap (((k : Nat) : Int) + 1) = ((k + 1 : Nat) : Int)) ∧ True ∧ True ∧ True) (by kernel_rfl) ⟨trivial, (by rw [i64_wrap (by omega) (by omega)]; omega), trivial, trivial, trivial⟩ ?_
            refine Exists.intro (k + 1, (o ++ [(⟨x21.c, x16⟩ : Pay)])) ⟨⟨by omega, by first | omega | (simp only [List.length_append, List.length_cons, List.length_nil]; omega), by exact pick_yes iv hx22 hx17 (by assumption), trivial⟩, by first | omega | (dsimp only; omega), le_turn [] [1, 2, 45, 46, 47] [63] (by kernel_rfl)⟩
          · skip
            have g23 : ¬ (x16 > 0) := of_decide_eq_false (h18)
            refine T_skip ?_
            refine T_regE [{ d := some (I ((k + 1 : Nat) : Int)) }] (mk 67 [(1, (.one (.ref 1 0))), (2, (.one (.own 64))), (9, (dt (I ((k : Nat) : Int)))), (10, (dt (I x16))), (45, (dt (.sl 1 ((splitW (solid f) (sumL 0 w) w).map encI)))), (46, (dt (I (((splitW (solid f) (sumL 0 w) w).length : Nat) : Int)))), (47, (dt (I ((k + 1 : Nat) : Int)))), (53, (dt (B (decide (x16 > 0))))), (65, (dt (I ((k + 1 : Nat) : Int))))] [(64, (.row 51 2 (o.map encPay))), (1, (.var [(.dat (I f.a)), (.dat (I f.p)), (.dat (I f.m)), (.dat (I f.s)), (.dat (.sl 2 (f.t.map encTrain)))]))]) (True ∧ (IntKind.i64.wrap (((k : Nat) : Int) + 1) = ((k + 1 : Nat) : Int)) ∧ True ∧ True ∧ True) (by kernel_rfl) ⟨trivial, (by rw [i64_wrap (by omega) (by omega)]; omega), trivial, trivial, trivial⟩ ?_
            refine Exists.intro (k + 1, o) ⟨⟨by omega, by first | omega | (simp only [List.length_append, List.length_cons, List.length_nil]; omega), by exact pick_no iv (List.getElem?_eq_getElem (show k < f.t.length by omega)) hx17 (by assumption), trivial⟩, by first | omega | (dsimp only; omega), le_turn [] [1, 2, 45, 46, 47] [] (by kernel_rfl)⟩
        · skip
          have g24 : ¬ (((k : Nat) : Int) < (((splitW (solid f) (sumL 0 w) w).length : Nat) : Int)) := of_decide_eq_false (h13)
          refine T_exit ?_
          refine T_reg [] [2, 3] [1] (mk 67 [(2, (.one (.own 64))), (3, (dt (I 0)))] [(64, (.row 51 2 (o.map encPay)))]) (True ∧ True ∧ True ∧ True ∧ True ∧ True ∧ True) (by kernel_rfl) ⟨trivial, trivial, trivial, trivial, trivial, trivial, trivial⟩ ?_
          refine T_ret ?_
          exact ret_here [(.one (.own 64)), (dt (I 0))] (by kernel_rfl) ⟨(by show D.sl 2 ((shares f).map encPay) = D.sl 2 (o.map encPay); exact congrArg (fun l => D.sl 2 (l.map encPay)) (by first | (exact shares_bad (by omega); done) | (exact shares_nil (by omega); done) | (omega; done) | (rw [pick_end iv (by omega), shares_is (by assumption) (by assumption)]; done) | (exact ((pick_end iv (by omega)).trans (shares_is hc0 hwf)).symm; done) : (shares f) = o)), (.inl (congrArg I (by first | (exact shares_bad (by omega); done) | (exact shares_nil (by omega); done) | (omega; done) | (rw [pick_end iv (by omega), shares_is (by assumption) (by assumption)]; done) | (exact ((pick_end iv (by omega)).trans (shares_is hc0 hwf)).symm; done) : 0 = (chk f)))), trivial⟩

end Go.Proofs.Ytpkbecaailhhmaa

/-
  maps.Keys and slices.Sorted at a map of the call's own: the keys, ascending. Conditions: those of each theorem.
-/
set_option linter.unusedVariables false
set_option linter.unusedSimpArgs false
namespace Go.Proofs.Ytpkbecaailhhmaa
open Go.DL Go.RowKit Go.Shelf Go.Sort Go.Maps
theorem sorts_in (m : Nat) : AnyZI.SortsIn Try.prog Try.lsorted_ren Fence.wide m :=
  ⟨fun blk off cap ss W hH hblk hsz => callsIn_wide.2 (AnyM.slices_Sort_int Try.lsortI blk off cap ss W hH hblk hsz),
   fun p cap W => callsIn_wide.2 (AnyM.slices_Sort_int_none Try.lsortI p cap W)⟩
theorem keys_ok : KeysOK Try.prog 53 52 3 3 3 := by
  refine ⟨⟨Try.f53, by kernel_rfl, by kernel_rfl, by kernel_rfl⟩, ⟨Try.f52, by kernel_rfl, by kernel_rfl, by kernel_rfl⟩, ?_⟩
  intro w b n l hown hn
  have hbl := hown.lt
  have cK : CallsIn Fence.wide 5 Try.prog 53 #[.map (some b)] w fun e w' => e = .returned (.func (.func 69) #[] #[.pointer (some ⟨w.heap.size, 0, none⟩)]) ∧ w' = w.alloc (.cells #[.map (some b)] 79) :=
    AnyZI.keys_in Try.lkeys Fence.wide 5 trivial rfl (some b) w
  refine (callsIn_wide.1 cK).mono ?_
  rintro e1 w1 ⟨rfl, rfl⟩
  refine ⟨_, rfl, (Below.refl _ w).alloc (Nat.le_refl _) _, ?_⟩
  have hsize : Maps.size (mapD l) = l.length := by simp [Maps.size, mapD]
  have hl : l.length ≤ n := by
    have := ownsMap_size hown
    obtain ⟨es, clock, _, _, hs, hD⟩ := hown
    have h2 := congrArg (fun d => match d with | DataW.map es => es.length | _ => 0) hD
    simp only [mapD, List.length_map] at h2
    rw [length_sorted] at h2
    simp at h2
    omega
  have hseq : SeqGives Fence.wide 2 Try.prog 69 #[.pointer (some ⟨w.heap.size, 0, none⟩)] encZ (fun ss => ss.Perm (intKeys (mapD l))) (Maps.size (mapD l)) (w.alloc (.cells #[.map (some b)] 79)) :=
    AnyZI.keys_gives (ρ := Try.lkeys_ren) { Try.lkeys with } Fence.wide _ trivial rfl (by omega) w.heap.size b n (mapD l) _ (by simp) (by simp) (hown.alloc _)
  have cS := AnyZI.sorted_in Try.lsorted Fence.wide 5 trivial trivial trivial trivial rfl (by omega) (sorts_in _) (enters_of Try.func68 (by kernel_rfl) rfl) 69 #[.pointer (some ⟨w.heap.size, 0, none⟩)] trivial
    (enters_of Try.func69 (by kernel_rfl) rfl) _ _ (by rw [hsize]; simp only [maxLen]; omega) (by rw [hsize]; omega) _ hseq
  change CallsIn _ _ Try.prog 52 _ _ _ at cS
  refine (callsIn_wide.1 cS).mono ?_
  rintro e2 w2 ⟨v, ss, rfl, hS, hrow, _, hb⟩
  exact ⟨v, ss, rfl, ((Below.refl _ w).alloc (Nat.le_refl _) _).trans (hb.mono (by simp)), hS, ownsRow_base_a hrow (by simp)⟩
end Go.Proofs.Ytpkbecaailhhmaa
