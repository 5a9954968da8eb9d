/-
  Texts that belong together, one behind the other; what each of them proves, and under which conditions, its own heading says.
-/
import Derived.Test.YtpkbecaailhhmaaRows
import Derived.ProofKit
import Derived.Handed
import Derived.SizedLaws
import Derived.Deep.Slices
import Derived.RangeFuncNested
import Derived.Maps.OwnSet
import Derived.Lib.SlKeysI
import Derived.Test.YtpkbecaailhhmaaKc
/-
  Walks at the data level, printed by gen.py: what each Go function returns, for data that reads as said. Conditions: those of each theorem.
-/
namespace Go.Proofs.Ytpkbecaailhhmaa
open Go.DL
set_option maxRecDepth 100000
set_option linter.unusedVariables false
set_option linter.unusedSimpArgs false
theorem ret_sane  : Ret Try.prog 10 [] (B true) := by
  refine Ret.of_T Try.func10 (by kernel_rfl) rfl ?_
  refine T_turn [] [] [] (mk 98 [] []) (by kernel_rfl) ?_
  refine T_reg [] [] [] (mk 98 [] []) (True ∧ True ∧ True) (by kernel_rfl) ⟨trivial, trivial, trivial⟩ ?_
  refine T_reg [] [1] [] (mk 98 [(1, (.one (.ref 1 0)))] [(1, (.var [(.dat (I 0)), (.dat (I 3)), (.dat (I 100)), (.dat (I 0)), (.dat nilS), (.dat (B false))]))]) (True ∧ True ∧ True ∧ True ∧ True ∧ True ∧ True) (by kernel_rfl) ⟨trivial, trivial, trivial, trivial, trivial, trivial, trivial⟩ ?_
  refine T_reg [] [1, 2] [] (mk 98 [(1, (.one (.ref 1 0))), (2, (.one (.ref 2 0)))] [(2, (.var [(.dat (I 1)), (.dat (I 3)), (.dat (I 0)), (.dat (I 1)), (.own 15), (.dat (B false))])), (15, (.row 51 2 ([(⟨5, 70⟩ : Pay)].map encPay))), (1, (.var [(.dat (I 0)), (.dat (I 3)), (.dat (I 100)), (.dat (I 0)), (.dat nilS), (.dat (B false))]))]) (True ∧ True ∧ True ∧ (dfill (fun i => some (i * 2, 2)) (List.replicate (1 * 2) .junk) [(0, [(.dat (I 5)), (.dat (I 70))])] = some ((flat ([(⟨5, 70⟩ : Pay)].map encPay)).map .dat)) ∧ True ∧ True ∧ True ∧ True ∧ True ∧ True ∧ True) (by kernel_rfl) ⟨trivial, trivial, trivial, rfl, trivial, trivial, trivial, trivial, trivial, trivial, trivial⟩ ?_
  refine T_seq ?_
  refine T_seq (T_parts ?_)
  refine TL_part 1 [] (mk 98 [(1, (.one (.ref 1 0))), (2, (.one (.ref 2 0))), (17, (.agg [(.dat (I 0)), (.dat (I 3)), (.dat (I 100)), (.dat (I 0)), (.dat nilS), (.dat (B false))]))] [(2, (.var [(.dat (I 1)), (.dat (I 3)), (.dat (I 0)), (.dat (I 1)), (.own 15), (.dat (B false))])), (15, (.row 51 2 ([(⟨5, 70⟩ : Pay)].map encPay))), (1, (.var [(.dat (I 0)), (.dat (I 3)), (.dat (I 100)), (.dat (I 0)), (.dat nilS), (.dat (B false))]))]) (True ∧ True ∧ True) (by kernel_rfl) ⟨trivial, trivial, trivial⟩ rfl ?_
  refine TL_unnil 17 4 2 (mk 98 [(1, (.one (.ref 1 0))), (2, (.one (.ref 2 0))), (17, (.agg [(.dat (I 0)), (.dat (I 3)), (.dat (I 100)), (.dat (I 0)), (.dat (.sl 2 (([] : List Pay).map encPay))), (.dat (B false))]))] [(2, (.var [(.dat (I 1)), (.dat (I 3)), (.dat (I 0)), (.dat (I 1)), (.own 15), (.dat (B false))])), (15, (.row 51 2 ([(⟨5, 70⟩ : Pay)].map encPay))), (1, (.var [(.dat (I 0)), (.dat (I 3)), (.dat (I 100)), (.dat (I 0)), (.dat nilS), (.dat (B false))]))]) (by kernel_rfl) ?_
  refine TL_part 6 [{}, { d := some (B true) }] (mk 98 [(1, (.one (.ref 1 0))), (2, (.one (.ref 2 0))), (17, (.agg [(.dat (I 0)), (.dat (I 3)), (.dat (I 100)), (.dat (I 0)), (.dat (.sl 2 (([] : List Pay).map encPay))), (.dat (B false))])), (18, (.one (.own 18))), (19, (dt (B true))), (20, (dt (B false))), (21, (dt (B false))), (22, (.agg [(.dat (I 0)), (.dat (I 3)), (.dat (I 100)), (.dat (I 0)), (.dat nilS), (.dat (B false))])), (23, (.agg [(.dat (I 1)), (.dat (I 3)), (.dat (I 0)), (.dat (I 1)), (.own 15), (.dat (B false))]))] [(18, (.row 39 6 ([(⟨0, 3, 100, 0, ([] : List Pay), false⟩ : Step)].map encStep))), (2, (.var [(.dat (I 1)), (.dat (I 3)), (.dat (I 0)), (.dat (I 1)), (.own 15), (.dat (B false))])), (15, (.row 51 2 ([(⟨5, 70⟩ : Pay)].map encPay))), (1, (.var [(.dat (I 0)), (.dat (I 3)), (.dat (I 100)), (.dat (I 0)), (.dat nilS), (.dat (B false))]))]) (True ∧ (dfill (fun i => some (i * 6, 6)) (List.replicate (1 * 6) .junk) [(0, [(.dat (I 0)), (.dat (I 3)), (.dat (I 100)), (.dat (I 0)), (.dat (.sl 2 (([] : List Pay).map encPay))), (.dat (B false))])] = some ((flat ([(⟨0, 3, 100, 0, ([] : List Pay), false⟩ : Step)].map encStep)).map .dat)) ∧ True ∧ (Ret Try.prog 32 [(.sl 6 ([(⟨0, 3, 100, 0, ([] : List Pay), false⟩ : Step)].map encStep)), (I 100), (I 0)] (B true)) ∧ True ∧ True ∧ True ∧ True ∧ ((false == false) = true) ∧ True ∧ ((false == false) = true) ∧ True ∧ True) (by kernel_rfl) ⟨trivial, rfl, trivial, (Ret.to (ret_balances [(⟨0, 3, 100, 0, ([] : List Pay), false⟩ : Step)] 100 0 (by simp) (by simp)) (by first | rw [ex1] | rw [ex2] | rw [ex3] | rw [ex4])), trivial, trivial, trivial, trivial, (by rw [show false = false from rfl]; rfl), trivial, (by rw [show false = false from rfl]; rfl), trivial, trivial⟩ rfl ?_
  refine TL_turn [15] [1, 2, 17, 18, 19, 20, 21, 22, 23] [] (mk 98 [(1, (.one (.ref 1 0))), (2, (.one (.ref 2 0))), (17, (.agg [(.dat (I 0)), (.dat (I 3)), (.dat (I 100)), (.dat (I 0)), (.dat (.sl 2 (([] : List Pay).map encPay))), (.dat (B false))])), (18, (.one (.own 18))), (19, (dt (B true))), (20, (dt (B false))), (21, (dt (B false))), (22, (.agg [(.dat (I 0)), (.dat (I 3)), (.dat (I 100)), (.dat (I 0)), (.dat nilS), (.dat (B false))])), (23, (.agg [(.dat (I 1)), (.dat (I 3)), (.dat (I 0)), (.dat (I 1)), (.dat (.sl 2 ([(⟨5, 70⟩ : Pay)].map encPay))), (.dat (B false))]))] [(18, (.row 39 6 ([(⟨0, 3, 100, 0, ([] : List Pay), false⟩ : Step)].map encStep))), (2, (.var [(.dat (I 1)), (.dat (I 3)), (.dat (I 0)), (.dat (I 1)), (.dat (.sl 2 ([(⟨5, 70⟩ : Pay)].map encPay))), (.dat (B false))])), (1, (.var [(.dat (I 0)), (.dat (I 3)), (.dat (I 100)), (.dat (I 0)), (.dat nilS), (.dat (B false))]))]) (by kernel_rfl) ?_
  refine TL_unnil 22 4 2 (mk 98 [(1, (.one (.ref 1 0))), (2, (.one (.ref 2 0))), (17, (.agg [(.dat (I 0)), (.dat (I 3)), (.dat (I 100)), (.dat (I 0)), (.dat (.sl 2 (([] : List Pay).map encPay))), (.dat (B false))])), (18, (.one (.own 18))), (19, (dt (B true))), (20, (dt (B false))), (21, (dt (B false))), (22, (.agg [(.dat (I 0)), (.dat (I 3)), (.dat (I 100)), (.dat (I 0)), (.dat (.sl 2 (([] : List Pay).map encPay))), (.dat (B false))])), (23, (.agg [(.dat (I 1)), (.dat (I 3)), (.dat (I 0)), (.dat (I 1)), (.dat (.sl 2 ([(⟨5, 70⟩ : Pay)].map encPay))), (.dat (B false))]))] [(18, (.row 39 6 ([(⟨0, 3, 100, 0, ([] : List Pay), false⟩ : Step)].map encStep))), (2, (.var [(.dat (I 1)), (.dat (I 3)), (.dat (I 0)), (.dat (I 1)), (.dat (.sl 2 ([(⟨5, 70⟩ : Pay)].map encPay))), (.dat (B false))])), (1, (.var [(.dat (I 0)), (.dat (I 3)), (.dat (I 100)), (.dat (I 0)), (.dat nilS), (.dat (B false))]))]) (by kernel_rfl) ?_
  refine TL_part 8 [{}, { d := some (B true) }, {}, { d := some (B false) }] (mk 98 [(1, (.one (.ref 1 0))), (2, (.one (.ref 2 0))), (17, (.agg [(.dat (I 0)), (.dat (I 3)), (.dat (I 100)), (.dat (I 0)), (.dat (.sl 2 (([] : List Pay).map encPay))), (.dat (B false))])), (18, (.one (.own 18))), (19, (dt (B true))), (20, (dt (B false))), (21, (dt (B false))), (22, (.agg [(.dat (I 0)), (.dat (I 3)), (.dat (I 100)), (.dat (I 0)), (.dat (.sl 2 (([] : List Pay).map encPay))), (.dat (B false))])), (23, (.agg [(.dat (I 1)), (.dat (I 3)), (.dat (I 0)), (.dat (I 1)), (.dat (.sl 2 ([(⟨5, 70⟩ : Pay)].map encPay))), (.dat (B false))])), (24, (.one (.own 24))), (25, (dt (B true))), (26, (dt (B false))), (27, (dt (B false))), (28, (dt (B false))), (29, (.agg [(.dat (I 0)), (.dat (I 3)), (.dat (I 100)), (.dat (I 0)), (.dat nilS), (.dat (B false))])), (30, (.agg [(.dat (I 1)), (.dat (I 3)), (.dat (I 0)), (.dat (I 1)), (.dat (.sl 2 ([(⟨5, 70⟩ : Pay)].map encPay))), (.dat (B false))])), (31, (.agg [(.dat (I 2)), (.dat (I 0)), (.dat (I 0)), (.dat (I 1)), (.dat nilS), (.dat (B true))]))] [(24, (.row 39 6 ([(⟨0, 3, 100, 0, ([] : List Pay), false⟩ : Step), (⟨1, 3, 0, 1, [(⟨5, 70⟩ : Pay)], false⟩ : Step)].map encStep))), (18, (.row 39 6 ([(⟨0, 3, 100, 0, ([] : List Pay), false⟩ : Step)].map encStep))), (2, (.var [(.dat (I 1)), (.dat (I 3)), (.dat (I 0)), (.dat (I 1)), (.dat (.sl 2 ([(⟨5, 70⟩ : Pay)].map encPay))), (.dat (B false))])), (1, (.var [(.dat (I 0)), (.dat (I 3)), (.dat (I 100)), (.dat (I 0)), (.dat nilS), (.dat (B false))]))]) (((false == false) = true) ∧ (dfill (fun i => some (i * 6, 6)) (List.replicate (2 * 6) .junk) [(0, [(.dat (I 0)), (.dat (I 3)), (.dat (I 100)), (.dat (I 0)), (.dat (.sl 2 (([] : List Pay).map encPay))), (.dat (B false))]), (1, [(.dat (I 1)), (.dat (I 3)), (.dat (I 0)), (.dat (I 1)), (.dat (.sl 2 ([(⟨5, 70⟩ : Pay)].map encPay))), (.dat (B false))])] = some ((flat ([(⟨0, 3, 100, 0, ([] : List Pay), false⟩ : Step), (⟨1, 3, 0, 1, [(⟨5, 70⟩ : Pay)], false⟩ : Step)].map encStep)).map .dat)) ∧ ((false == false) = true) ∧ (Ret Try.prog 32 [(.sl 6 ([(⟨0, 3, 100, 0, ([] : List Pay), false⟩ : Step), (⟨1, 3, 0, 1, [(⟨5, 70⟩ : Pay)], false⟩ : Step)].map encStep)), (I 30), (I 0)] (B true)) ∧ ((false == false) = true) ∧ True ∧ True ∧ (false = false) ∧ True ∧ True ∧ ((false == false) = true) ∧ True ∧ ((false == false) = true) ∧ True ∧ ((false == false) = true) ∧ True ∧ True) (by kernel_rfl) ⟨(by rw [show false = false from rfl]; rfl), rfl, (by rw [show false = false from rfl]; rfl), (Ret.to (ret_balances [(⟨0, 3, 100, 0, ([] : List Pay), false⟩ : Step), (⟨1, 3, 0, 1, [(⟨5, 70⟩ : Pay)], false⟩ : Step)] 30 0 (by simp) (by simp)) (by first | rw [ex1] | rw [ex2] | rw [ex3] | rw [ex4])), (by rw [show false = false from rfl]; rfl), trivial, trivial, rfl, trivial, trivial, (by rw [show false = false from rfl]; rfl), trivial, (by rw [show false = false from rfl]; rfl), trivial, (by rw [show false = false from rfl]; rfl), trivial, trivial⟩ rfl ?_
  refine TL_unnil 29 4 2 (mk 98 [(1, (.one (.ref 1 0))), (2, (.one (.ref 2 0))), (17, (.agg [(.dat (I 0)), (.dat (I 3)), (.dat (I 100)), (.dat (I 0)), (.dat (.sl 2 (([] : List Pay).map encPay))), (.dat (B false))])), (18, (.one (.own 18))), (19, (dt (B true))), (20, (dt (B false))), (21, (dt (B false))), (22, (.agg [(.dat (I 0)), (.dat (I 3)), (.dat (I 100)), (.dat (I 0)), (.dat (.sl 2 (([] : List Pay).map encPay))), (.dat (B false))])), (23, (.agg [(.dat (I 1)), (.dat (I 3)), (.dat (I 0)), (.dat (I 1)), (.dat (.sl 2 ([(⟨5, 70⟩ : Pay)].map encPay))), (.dat (B false))])), (24, (.one (.own 24))), (25, (dt (B true))), (26, (dt (B false))), (27, (dt (B false))), (28, (dt (B false))), (29, (.agg [(.dat (I 0)), (.dat (I 3)), (.dat (I 100)), (.dat (I 0)), (.dat (.sl 2 (([] : List Pay).map encPay))), (.dat (B false))])), (30, (.agg [(.dat (I 1)), (.dat (I 3)), (.dat (I 0)), (.dat (I 1)), (.dat (.sl 2 ([(⟨5, 70⟩ : Pay)].map encPay))), (.dat (B false))])), (31, (.agg [(.dat (I 2)), (.dat (I 0)), (.dat (I 0)), (.dat (I 1)), (.dat nilS), (.dat (B true))]))] [(24, (.row 39 6 ([(⟨0, 3, 100, 0, ([] : List Pay), false⟩ : Step), (⟨1, 3, 0, 1, [(⟨5, 70⟩ : Pay)], false⟩ : Step)].map encStep))), (18, (.row 39 6 ([(⟨0, 3, 100, 0, ([] : List Pay), false⟩ : Step)].map encStep))), (2, (.var [(.dat (I 1)), (.dat (I 3)), (.dat (I 0)), (.dat (I 1)), (.dat (.sl 2 ([(⟨5, 70⟩ : Pay)].map encPay))), (.dat (B false))])), (1, (.var [(.dat (I 0)), (.dat (I 3)), (.dat (I 100)), (.dat (I 0)), (.dat nilS), (.dat (B false))]))]) (by kernel_rfl) ?_
  refine TL_unnil 31 4 2 (mk 98 [(1, (.one (.ref 1 0))), (2, (.one (.ref 2 0))), (17, (.agg [(.dat (I 0)), (.dat (I 3)), (.dat (I 100)), (.dat (I 0)), (.dat (.sl 2 (([] : List Pay).map encPay))), (.dat (B false))])), (18, (.one (.own 18))), (19, (dt (B true))), (20, (dt (B false))), (21, (dt (B false))), (22, (.agg [(.dat (I 0)), (.dat (I 3)), (.dat (I 100)), (.dat (I 0)), (.dat (.sl 2 (([] : List Pay).map encPay))), (.dat (B false))])), (23, (.agg [(.dat (I 1)), (.dat (I 3)), (.dat (I 0)), (.dat (I 1)), (.dat (.sl 2 ([(⟨5, 70⟩ : Pay)].map encPay))), (.dat (B false))])), (24, (.one (.own 24))), (25, (dt (B true))), (26, (dt (B false))), (27, (dt (B false))), (28, (dt (B false))), (29, (.agg [(.dat (I 0)), (.dat (I 3)), (.dat (I 100)), (.dat (I 0)), (.dat (.sl 2 (([] : List Pay).map encPay))), (.dat (B false))])), (30, (.agg [(.dat (I 1)), (.dat (I 3)), (.dat (I 0)), (.dat (I 1)), (.dat (.sl 2 ([(⟨5, 70⟩ : Pay)].map encPay))), (.dat (B false))])), (31, (.agg [(.dat (I 2)), (.dat (I 0)), (.dat (I 0)), (.dat (I 1)), (.dat (.sl 2 (([] : List Pay).map encPay))), (.dat (B true))]))] [(24, (.row 39 6 ([(⟨0, 3, 100, 0, ([] : List Pay), false⟩ : Step), (⟨1, 3, 0, 1, [(⟨5, 70⟩ : Pay)], false⟩ : Step)].map encStep))), (18, (.row 39 6 ([(⟨0, 3, 100, 0, ([] : List Pay), false⟩ : Step)].map encStep))), (2, (.var [(.dat (I 1)), (.dat (I 3)), (.dat (I 0)), (.dat (I 1)), (.dat (.sl 2 ([(⟨5, 70⟩ : Pay)].map encPay))), (.dat (B false))])), (1, (.var [(.dat (I 0)), (.dat (I 3)), (.dat (I 100)), (.dat (I 0)), (.dat nilS), (.dat (B false))]))]) (by kernel_rfl) ?_
  refine TL_part 8 [{}, { d := some (B true) }, {}, { d := some (B false) }] (mk 98 [(1, (.one (.ref 1 0))), (2, (.one (.ref 2 0))), (17, (.agg [(.dat (I 0)), (.dat (I 3)), (.dat (I 100)), (.dat (I 0)), (.dat (.sl 2 (([] : List Pay).map encPay))), (.dat (B false))])), (18, (.one (.own 18))), (19, (dt (B true))), (20, (dt (B false))), (21, (dt (B false))), (22, (.agg [(.dat (I 0)), (.dat (I 3)), (.dat (I 100)), (.dat (I 0)), (.dat (.sl 2 (([] : List Pay).map encPay))), (.dat (B false))])), (23, (.agg [(.dat (I 1)), (.dat (I 3)), (.dat (I 0)), (.dat (I 1)), (.dat (.sl 2 ([(⟨5, 70⟩ : Pay)].map encPay))), (.dat (B false))])), (24, (.one (.own 24))), (25, (dt (B true))), (26, (dt (B false))), (27, (dt (B false))), (28, (dt (B false))), (29, (.agg [(.dat (I 0)), (.dat (I 3)), (.dat (I 100)), (.dat (I 0)), (.dat (.sl 2 (([] : List Pay).map encPay))), (.dat (B false))])), (30, (.agg [(.dat (I 1)), (.dat (I 3)), (.dat (I 0)), (.dat (I 1)), (.dat (.sl 2 ([(⟨5, 70⟩ : Pay)].map encPay))), (.dat (B false))])), (31, (.agg [(.dat (I 2)), (.dat (I 0)), (.dat (I 0)), (.dat (I 1)), (.dat (.sl 2 (([] : List Pay).map encPay))), (.dat (B true))])), (32, (.one (.own 32))), (33, (dt (B true))), (34, (dt (B false))), (35, (dt (B false))), (36, (dt (B false))), (37, (.agg [(.dat (I 0)), (.dat (I 3)), (.dat (I 100)), (.dat (I 0)), (.dat nilS), (.dat (B false))])), (38, (.agg [(.dat (I 1)), (.dat (I 3)), (.dat (I 0)), (.dat (I 1)), (.dat (.sl 2 ([(⟨5, 70⟩ : Pay)].map encPay))), (.dat (B false))])), (39, (.agg [(.dat (I 2)), (.dat (I 0)), (.dat (I 0)), (.dat (I 1)), (.dat nilS), (.dat (B false))]))] [(32, (.row 39 6 ([(⟨0, 3, 100, 0, ([] : List Pay), false⟩ : Step), (⟨1, 3, 0, 1, [(⟨5, 70⟩ : Pay)], false⟩ : Step), (⟨2, 0, 0, 1, ([] : List Pay), true⟩ : Step)].map encStep))), (24, (.row 39 6 ([(⟨0, 3, 100, 0, ([] : List Pay), false⟩ : Step), (⟨1, 3, 0, 1, [(⟨5, 70⟩ : Pay)], false⟩ : Step)].map encStep))), (18, (.row 39 6 ([(⟨0, 3, 100, 0, ([] : List Pay), false⟩ : Step)].map encStep))), (2, (.var [(.dat (I 1)), (.dat (I 3)), (.dat (I 0)), (.dat (I 1)), (.dat (.sl 2 ([(⟨5, 70⟩ : Pay)].map encPay))), (.dat (B false))])), (1, (.var [(.dat (I 0)), (.dat (I 3)), (.dat (I 100)), (.dat (I 0)), (.dat nilS), (.dat (B false))]))]) (((false == false) = true) ∧ (dfill (fun i => some (i * 6, 6)) (List.replicate (3 * 6) .junk) [(0, [(.dat (I 0)), (.dat (I 3)), (.dat (I 100)), (.dat (I 0)), (.dat (.sl 2 (([] : List Pay).map encPay))), (.dat (B false))]), (1, [(.dat (I 1)), (.dat (I 3)), (.dat (I 0)), (.dat (I 1)), (.dat (.sl 2 ([(⟨5, 70⟩ : Pay)].map encPay))), (.dat (B false))]), (2, [(.dat (I 2)), (.dat (I 0)), (.dat (I 0)), (.dat (I 1)), (.dat (.sl 2 (([] : List Pay).map encPay))), (.dat (B true))])] = some ((flat ([(⟨0, 3, 100, 0, ([] : List Pay), false⟩ : Step), (⟨1, 3, 0, 1, [(⟨5, 70⟩ : Pay)], false⟩ : Step), (⟨2, 0, 0, 1, ([] : List Pay), true⟩ : Step)].map encStep)).map .dat)) ∧ ((false == false) = true) ∧ (Ret Try.prog 32 [(.sl 6 ([(⟨0, 3, 100, 0, ([] : List Pay), false⟩ : Step), (⟨1, 3, 0, 1, [(⟨5, 70⟩ : Pay)], false⟩ : Step), (⟨2, 0, 0, 1, ([] : List Pay), true⟩ : Step)].map encStep)), (I 30), (I 70)] (B true)) ∧ ((false == false) = true) ∧ True ∧ True ∧ (false = false) ∧ True ∧ True ∧ ((false == false) = true) ∧ True ∧ ((false == false) = true) ∧ True ∧ ((false == false) = true) ∧ True ∧ True) (by kernel_rfl) ⟨(by rw [show false = false from rfl]; rfl), rfl, (by rw [show false = false from rfl]; rfl), (Ret.to (ret_balances [(⟨0, 3, 100, 0, ([] : List Pay), false⟩ : Step), (⟨1, 3, 0, 1, [(⟨5, 70⟩ : Pay)], false⟩ : Step), (⟨2, 0, 0, 1, ([] : List Pay), true⟩ : Step)] 30 70 (by simp) (by simp)) (by first | rw [ex1] | rw [ex2] | rw [ex3] | rw [ex4])), (by rw [show false = false from rfl]; rfl), trivial, trivial, rfl, trivial, trivial, (by rw [show false = false from rfl]; rfl), trivial, (by rw [show false = false from rfl]; rfl), trivial, (by rw [show false = false from rfl]; rfl), trivial, trivial⟩ rfl ?_
  refine TL_unnil 37 4 2 (mk 98 [(1, (.one (.ref 1 0))), (2, (.one (.ref 2 0))), (17, (.agg [(.dat (I 0)), (.dat (I 3)), (.dat (I 100)), (.dat (I 0)), (.dat (.sl 2 (([] : List Pay).map encPay))), (.dat (B false))])), (18, (.one (.own 18))), (19, (dt (B true))), (20, (dt (B false))), (21, (dt (B false))), (22, (.agg [(.dat (I 0)), (.dat (I 3)), (.dat (I 100)), (.dat (I 0)), (.dat (.sl 2 (([] : List Pay).map encPay))), (.dat (B false))])), (23, (.agg [(.dat (I 1)), (.dat (I 3)), (.dat (I 0)), (.dat (I 1)), (.dat (.sl 2 ([(⟨5, 70⟩ : Pay)].map encPay))), (.dat (B false))])), (24, (.one (.own 24))), (25, (dt (B true))), (26, (dt (B false))), (27, (dt (B false))), (28, (dt (B false))), (29, (.agg [(.dat (I 0)), (.dat (I 3)), (.dat (I 100)), (.dat (I 0)), (.dat (.sl 2 (([] : List Pay).map encPay))), (.dat (B false))])), (30, (.agg [(.dat (I 1)), (.dat (I 3)), (.dat (I 0)), (.dat (I 1)), (.dat (.sl 2 ([(⟨5, 70⟩ : Pay)].map encPay))), (.dat (B false))])), (31, (.agg [(.dat (I 2)), (.dat (I 0)), (.dat (I 0)), (.dat (I 1)), (.dat (.sl 2 (([] : List Pay).map encPay))), (.dat (B true))])), (32, (.one (.own 32))), (33, (dt (B true))), (34, (dt (B false))), (35, (dt (B false))), (36, (dt (B false))), (37, (.agg [(.dat (I 0)), (.dat (I 3)), (.dat (I 100)), (.dat (I 0)), (.dat (.sl 2 (([] : List Pay).map encPay))), (.dat (B false))])), (38, (.agg [(.dat (I 1)), (.dat (I 3)), (.dat (I 0)), (.dat (I 1)), (.dat (.sl 2 ([(⟨5, 70⟩ : Pay)].map encPay))), (.dat (B false))])), (39, (.agg [(.dat (I 2)), (.dat (I 0)), (.dat (I 0)), (.dat (I 1)), (.dat nilS), (.dat (B false))]))] [(32, (.row 39 6 ([(⟨0, 3, 100, 0, ([] : List Pay), false⟩ : Step), (⟨1, 3, 0, 1, [(⟨5, 70⟩ : Pay)], false⟩ : Step), (⟨2, 0, 0, 1, ([] : List Pay), true⟩ : Step)].map encStep))), (24, (.row 39 6 ([(⟨0, 3, 100, 0, ([] : List Pay), false⟩ : Step), (⟨1, 3, 0, 1, [(⟨5, 70⟩ : Pay)], false⟩ : Step)].map encStep))), (18, (.row 39 6 ([(⟨0, 3, 100, 0, ([] : List Pay), false⟩ : Step)].map encStep))), (2, (.var [(.dat (I 1)), (.dat (I 3)), (.dat (I 0)), (.dat (I 1)), (.dat (.sl 2 ([(⟨5, 70⟩ : Pay)].map encPay))), (.dat (B false))])), (1, (.var [(.dat (I 0)), (.dat (I 3)), (.dat (I 100)), (.dat (I 0)), (.dat nilS), (.dat (B false))]))]) (by kernel_rfl) ?_
  refine TL_unnil 39 4 2 (mk 98 [(1, (.one (.ref 1 0))), (2, (.one (.ref 2 0))), (17, (.agg [(.dat (I 0)), (.dat (I 3)), (.dat (I 100)), (.dat (I 0)), (.dat (.sl 2 (([] : List Pay).map encPay))), (.dat (B false))])), (18, (.one (.own 18))), (19, (dt (B true))), (20, (dt (B false))), (21, (dt (B false))), (22, (.agg [(.dat (I 0)), (.dat (I 3)), (.dat (I 100)), (.dat (I 0)), (.dat (.sl 2 (([] : List Pay).map encPay))), (.dat (B false))])), (23, (.agg [(.dat (I 1)), (.dat (I 3)), (.dat (I 0)), (.dat (I 1)), (.dat (.sl 2 ([(⟨5, 70⟩ : Pay)].map encPay))), (.dat (B false))])), (24, (.one (.own 24))), (25, (dt (B true))), (26, (dt (B false))), (27, (dt (B false))), (28, (dt (B false))), (29, (.agg [(.dat (I 0)), (.dat (I 3)), (.dat (I 100)), (.dat (I 0)), (.dat (.sl 2 (([] : List Pay).map encPay))), (.dat (B false))])), (30, (.agg [(.dat (I 1)), (.dat (I 3)), (.dat (I 0)), (.dat (I 1)), (.dat (.sl 2 ([(⟨5, 70⟩ : Pay)].map encPay))), (.dat (B false))])), (31, (.agg [(.dat (I 2)), (.dat (I 0)), (.dat (I 0)), (.dat (I 1)), (.dat (.sl 2 (([] : List Pay).map encPay))), (.dat (B true))])), (32, (.one (.own 32))), (33, (dt (B true))), (34, (dt (B false))), (35, (dt (B false))), (36, (dt (B false))), (37, (.agg [(.dat (I 0)), (.dat (I 3)), (.dat (I 100)), (.dat (I 0)), (.dat (.sl 2 (([] : List Pay).map encPay))), (.dat (B false))])), (38, (.agg [(.dat (I 1)), (.dat (I 3)), (.dat (I 0)), (.dat (I 1)), (.dat (.sl 2 ([(⟨5, 70⟩ : Pay)].map encPay))), (.dat (B false))])), (39, (.agg [(.dat (I 2)), (.dat (I 0)), (.dat (I 0)), (.dat (I 1)), (.dat (.sl 2 (([] : List Pay).map encPay))), (.dat (B false))]))] [(32, (.row 39 6 ([(⟨0, 3, 100, 0, ([] : List Pay), false⟩ : Step), (⟨1, 3, 0, 1, [(⟨5, 70⟩ : Pay)], false⟩ : Step), (⟨2, 0, 0, 1, ([] : List Pay), true⟩ : Step)].map encStep))), (24, (.row 39 6 ([(⟨0, 3, 100, 0, ([] : List Pay), false⟩ : Step), (⟨1, 3, 0, 1, [(⟨5, 70⟩ : Pay)], false⟩ : Step)].map encStep))), (18, (.row 39 6 ([(⟨0, 3, 100, 0, ([] : List Pay), false⟩ : Step)].map encStep))), (2, (.var [(.dat (I 1)), (.dat (I 3)), (.dat (I 0)), (.dat (I 1)), (.dat (.sl 2 ([(⟨5, 70⟩ : Pay)].map encPay))), (.dat (B false))])), (1, (.var [(.dat (I 0)), (.dat (I 3)), (.dat (I 100)), (.dat (I 0)), (.dat nilS), (.dat (B false))]))]) (by kernel_rfl) ?_
  refine TL_part 4 [{}, { d := some (B true) }, {}, { d := some (B false) }] (mk 98 [(1, (.one (.ref 1 0))), (2, (.one (.ref 2 0))), (17, (.agg [(.dat (I 0)), (.dat (I 3)), (.dat (I 100)), (.dat (I 0)), (.dat (.sl 2 (([] : List Pay).map encPay))), (.dat (B false))])), (18, (.one (.own 18))), (19, (dt (B true))), (20, (dt (B false))), (21, (dt (B false))), (22, (.agg [(.dat (I 0)), (.dat (I 3)), (.dat (I 100)), (.dat (I 0)), (.dat (.sl 2 (([] : List Pay).map encPay))), (.dat (B false))])), (23, (.agg [(.dat (I 1)), (.dat (I 3)), (.dat (I 0)), (.dat (I 1)), (.dat (.sl 2 ([(⟨5, 70⟩ : Pay)].map encPay))), (.dat (B false))])), (24, (.one (.own 24))), (25, (dt (B true))), (26, (dt (B false))), (27, (dt (B false))), (28, (dt (B false))), (29, (.agg [(.dat (I 0)), (.dat (I 3)), (.dat (I 100)), (.dat (I 0)), (.dat (.sl 2 (([] : List Pay).map encPay))), (.dat (B false))])), (30, (.agg [(.dat (I 1)), (.dat (I 3)), (.dat (I 0)), (.dat (I 1)), (.dat (.sl 2 ([(⟨5, 70⟩ : Pay)].map encPay))), (.dat (B false))])), (31, (.agg [(.dat (I 2)), (.dat (I 0)), (.dat (I 0)), (.dat (I 1)), (.dat (.sl 2 (([] : List Pay).map encPay))), (.dat (B true))])), (32, (.one (.own 32))), (33, (dt (B true))), (34, (dt (B false))), (35, (dt (B false))), (36, (dt (B false))), (37, (.agg [(.dat (I 0)), (.dat (I 3)), (.dat (I 100)), (.dat (I 0)), (.dat (.sl 2 (([] : List Pay).map encPay))), (.dat (B false))])), (38, (.agg [(.dat (I 1)), (.dat (I 3)), (.dat (I 0)), (.dat (I 1)), (.dat (.sl 2 ([(⟨5, 70⟩ : Pay)].map encPay))), (.dat (B false))])), (39, (.agg [(.dat (I 2)), (.dat (I 0)), (.dat (I 0)), (.dat (I 1)), (.dat (.sl 2 (([] : List Pay).map encPay))), (.dat (B false))])), (40, (.one (.own 40))), (41, (dt (B true))), (42, (dt (B false))), (43, (dt (B false)))] [(40, (.row 39 6 ([(⟨0, 3, 100, 0, ([] : List Pay), false⟩ : Step), (⟨1, 3, 0, 1, [(⟨5, 70⟩ : Pay)], false⟩ : Step), (⟨2, 0, 0, 1, ([] : List Pay), false⟩ : Step)].map encStep))), (32, (.row 39 6 ([(⟨0, 3, 100, 0, ([] : List Pay), false⟩ : Step), (⟨1, 3, 0, 1, [(⟨5, 70⟩ : Pay)], false⟩ : Step), (⟨2, 0, 0, 1, ([] : List Pay), true⟩ : Step)].map encStep))), (24, (.row 39 6 ([(⟨0, 3, 100, 0, ([] : List Pay), false⟩ : Step), (⟨1, 3, 0, 1, [(⟨5, 70⟩ : Pay)], false⟩ : Step)].map encStep))), (18, (.row 39 6 ([(⟨0, 3, 100, 0, ([] : List Pay), false⟩ : Step)].map encStep))), (2, (.var [(.dat (I 1)), (.dat (I 3)), (.dat (I 0)), (.dat (I 1)), (.dat (.sl 2 ([(⟨5, 70⟩ : Pay)].map encPay))), (.dat (B false))])), (1, (.var [(.dat (I 0)), (.dat (I 3)), (.dat (I 100)), (.dat (I 0)), (.dat nilS), (.dat (B false))]))]) (((false == false) = true) ∧ (dfill (fun i => some (i * 6, 6)) (List.replicate (3 * 6) .junk) [(0, [(.dat (I 0)), (.dat (I 3)), (.dat (I 100)), (.dat (I 0)), (.dat (.sl 2 (([] : List Pay).map encPay))), (.dat (B false))]), (1, [(.dat (I 1)), (.dat (I 3)), (.dat (I 0)), (.dat (I 1)), (.dat (.sl 2 ([(⟨5, 70⟩ : Pay)].map encPay))), (.dat (B false))]), (2, [(.dat (I 2)), (.dat (I 0)), (.dat (I 0)), (.dat (I 1)), (.dat (.sl 2 (([] : List Pay).map encPay))), (.dat (B false))])] = some ((flat ([(⟨0, 3, 100, 0, ([] : List Pay), false⟩ : Step), (⟨1, 3, 0, 1, [(⟨5, 70⟩ : Pay)], false⟩ : Step), (⟨2, 0, 0, 1, ([] : List Pay), false⟩ : Step)].map encStep)).map .dat)) ∧ ((false == false) = true) ∧ (Ret Try.prog 32 [(.sl 6 ([(⟨0, 3, 100, 0, ([] : List Pay), false⟩ : Step), (⟨1, 3, 0, 1, [(⟨5, 70⟩ : Pay)], false⟩ : Step), (⟨2, 0, 0, 1, ([] : List Pay), false⟩ : Step)].map encStep)), (I 100), (I 0)] (B true)) ∧ ((false == false) = true) ∧ True ∧ True ∧ (false = false) ∧ True) (by kernel_rfl) ⟨(by rw [show false = false from rfl]; rfl), rfl, (by rw [show false = false from rfl]; rfl), (Ret.to (ret_balances [(⟨0, 3, 100, 0, ([] : List Pay), false⟩ : Step), (⟨1, 3, 0, 1, [(⟨5, 70⟩ : Pay)], false⟩ : Step), (⟨2, 0, 0, 1, ([] : List Pay), false⟩ : Step)] 100 0 (by simp) (by simp)) (by first | rw [ex1] | rw [ex2] | rw [ex3] | rw [ex4])), (by rw [show false = false from rfl]; rfl), trivial, trivial, rfl, trivial⟩ rfl ?_
  refine TL_nilQ ?_
  refine T_turn [] [2, 43] [40, 32, 24, 18, 1] (mk 98 [(2, (.one (.ref 2 0))), (43, (dt (B false)))] [(2, (.var [(.dat (I 1)), (.dat (I 3)), (.dat (I 0)), (.dat (I 1)), (.dat (.sl 2 ([(⟨5, 70⟩ : Pay)].map encPay))), (.dat (B false))]))]) (by kernel_rfl) ?_
  refine T_cond false (by kernel_rfl) (fun h => absurd (h.symm.trans rfl) (by decide)) (fun _ => ?_)
  refine T_skip ?_
  refine T_seq (T_parts ?_)
  refine TL_part 1 [] (mk 98 [(2, (.one (.ref 2 0))), (43, (dt (B false))), (45, (.one (.own 45)))] [(45, (.row 3 1 ([3, 5].map encI))), (2, (.var [(.dat (I 1)), (.dat (I 3)), (.dat (I 0)), (.dat (I 1)), (.dat (.sl 2 ([(⟨5, 70⟩ : Pay)].map encPay))), (.dat (B false))]))]) (True ∧ (dfill (fun i => some (i * 1, 1)) (List.replicate (2 * 1) .junk) [(0, [(.dat (I 3))]), (1, [(.dat (I 5))])] = some ((flat ([3, 5].map encI)).map .dat)) ∧ True) (by kernel_rfl) ⟨trivial, rfl, trivial⟩ rfl ?_
  refine TL_turn [45] [2, 43, 45] [] (mk 98 [(2, (.one (.ref 2 0))), (43, (dt (B false))), (45, (dt (.sl 1 ([3, 5].map encI))))] [(2, (.var [(.dat (I 1)), (.dat (I 3)), (.dat (I 0)), (.dat (I 1)), (.dat (.sl 2 ([(⟨5, 70⟩ : Pay)].map encPay))), (.dat (B false))]))]) (by kernel_rfl) ?_
  refine TL_part 7 [{ d := some (.tup [(.agg [(.sl 2 (([⟨3, 0⟩, ⟨5, 0⟩] : List Pay).map encPay)), (.sl 4 (([] : List Hold).map encHold))]), (I 0)]) }] (mk 98 [(2, (.one (.ref 2 0))), (3, (.one (.ref 3 0))), (4, (dt (I 0))), (43, (dt (B false))), (44, (.tup [(true, [(.dat (.sl 2 (([⟨3, 0⟩, ⟨5, 0⟩] : List Pay).map encPay))), (.dat (.sl 4 (([] : List Hold).map encHold)))]), (false, [(.dat (I 0))])])), (45, (dt (.sl 1 ([3, 5].map encI)))), (46, (.tup [(true, [(.dat (.sl 2 (([⟨3, 0⟩, ⟨5, 0⟩] : List Pay).map encPay))), (.dat (.sl 4 (([] : List Hold).map encHold)))]), (false, [(.dat (I 0))])])), (47, (.agg [(.dat (.sl 2 (([⟨3, 0⟩, ⟨5, 0⟩] : List Pay).map encPay))), (.dat (.sl 4 (([] : List Hold).map encHold)))])), (48, (dt (I 0)))] [(3, (.var [(.dat (.sl 2 (([⟨3, 0⟩, ⟨5, 0⟩] : List Pay).map encPay))), (.dat (.sl 4 (([] : List Hold).map encHold)))])), (2, (.var [(.dat (I 1)), (.dat (I 3)), (.dat (I 0)), (.dat (I 1)), (.dat (.sl 2 ([(⟨5, 70⟩ : Pay)].map encPay))), (.dat (B false))]))]) (True ∧ (Ret Try.prog 12 [(.sl 1 ([3, 5].map encI))] (.tup [(.agg [(.sl 2 (([⟨3, 0⟩, ⟨5, 0⟩] : List Pay).map encPay)), (.sl 4 (([] : List Hold).map encHold))]), (I 0)])) ∧ True ∧ True ∧ True ∧ True ∧ True ∧ True ∧ True ∧ True ∧ True ∧ True ∧ True ∧ True ∧ True) (by kernel_rfl) ⟨trivial, (Ret.to (ret_new [3, 5] (by first | decide | omega)) (by rw [ex5.1, ex5.2]; first | done | rfl)), trivial, trivial, trivial, trivial, trivial, trivial, trivial, trivial, trivial, trivial, trivial, trivial, trivial⟩ rfl ?_
  refine TL_nilQ ?_
  refine T_turn [] [2, 3, 4] [] (mk 98 [(2, (.one (.ref 2 0))), (3, (.one (.ref 3 0))), (4, (dt (I 0)))] [(3, (.var [(.dat (.sl 2 (([⟨3, 0⟩, ⟨5, 0⟩] : List Pay).map encPay))), (.dat (.sl 4 (([] : List Hold).map encHold)))])), (2, (.var [(.dat (I 1)), (.dat (I 3)), (.dat (I 0)), (.dat (I 1)), (.dat (.sl 2 ([(⟨5, 70⟩ : Pay)].map encPay))), (.dat (B false))]))]) (by kernel_rfl) ?_
  refine T_reg [{}, {}, { d := some (.tup [(.agg [(.sl 2 (([] : List Pay).map encPay)), (.sl 4 (([] : List Hold).map encHold))]), (I 390)]) }] [3, 4, 6] [5, 2] (mk 98 [(3, (.one (.ref 3 0))), (4, (dt (I 0))), (6, (dt (I 390)))] [(3, (.var [(.dat (.sl 2 (([⟨3, 0⟩, ⟨5, 0⟩] : List Pay).map encPay))), (.dat (.sl 4 (([] : List Hold).map encHold)))]))]) (True ∧ True ∧ True ∧ True ∧ True ∧ (Ret Try.prog 28 [(.agg [(.sl 2 (([⟨3, 0⟩, ⟨5, 0⟩] : List Pay).map encPay)), (.sl 4 (([] : List Hold).map encHold))]), (.agg [(I 1), (I 3), (I 0), (I 1), (.sl 2 ([(⟨5, 70⟩ : Pay)].map encPay)), (B false)])] (.tup [(.agg [(.sl 2 (([] : List Pay).map encPay)), (.sl 4 (([] : List Hold).map encHold))]), (I 390)])) ∧ True ∧ True ∧ True ∧ True ∧ True ∧ True ∧ True ∧ True ∧ True ∧ True ∧ True ∧ True ∧ True) (by kernel_rfl) ⟨trivial, trivial, trivial, trivial, trivial, (Ret.to (ret_step (⟨([⟨3, 0⟩, ⟨5, 0⟩] : List Pay), ([] : List Hold)⟩ : House) (by exact ⟨by simp, by simp, by simp⟩ : Fits (⟨([⟨3, 0⟩, ⟨5, 0⟩] : List Pay), ([] : List Hold)⟩ : House)) (⟨1, 3, 0, 1, [(⟨5, 70⟩ : Pay)], false⟩ : Step) (by simp)) (by rw [ex6]; first | done | rfl)), trivial, trivial, trivial, trivial, trivial, trivial, trivial, trivial, trivial, trivial, trivial, trivial, trivial⟩ ?_
  refine T_reg [{}, { d := some (.tup [(.agg [(.sl 2 (([] : List Pay).map encPay)), (.sl 4 (([] : List Hold).map encHold))]), (I 1)]) }] [3, 4, 6, 8] [7] (mk 98 [(3, (.one (.ref 3 0))), (4, (dt (I 0))), (6, (dt (I 390))), (8, (dt (I 1)))] [(3, (.var [(.dat (.sl 2 (([⟨3, 0⟩, ⟨5, 0⟩] : List Pay).map encPay))), (.dat (.sl 4 (([] : List Hold).map encHold)))]))]) (True ∧ True ∧ True ∧ (Ret Try.prog 22 [(.agg [(.sl 2 (([⟨3, 0⟩, ⟨5, 0⟩] : List Pay).map encPay)), (.sl 4 (([] : List Hold).map encHold))]), (I 3), (I 0)] (.tup [(.agg [(.sl 2 (([] : List Pay).map encPay)), (.sl 4 (([] : List Hold).map encHold))]), (I 1)])) ∧ True ∧ True ∧ True ∧ True ∧ True ∧ True ∧ True ∧ True ∧ True ∧ True ∧ True ∧ True ∧ True) (by kernel_rfl) ⟨trivial, trivial, trivial, (Ret.to (ret_pay (⟨([⟨3, 0⟩, ⟨5, 0⟩] : List Pay), ([] : List Hold)⟩ : House) ((by exact ⟨by simp, by simp, by simp⟩ : Fits (⟨([⟨3, 0⟩, ⟨5, 0⟩] : List Pay), ([] : List Hold)⟩ : House))).1 ((by exact ⟨by simp, by simp, by simp⟩ : Fits (⟨([⟨3, 0⟩, ⟨5, 0⟩] : List Pay), ([] : List Hold)⟩ : House))).2.1 ((by exact ⟨by simp, by simp, by simp⟩ : Fits (⟨([⟨3, 0⟩, ⟨5, 0⟩] : List Pay), ([] : List Hold)⟩ : House))).2.2 _ _) (by rw [ex7]; first | done | rfl)), trivial, trivial, trivial, trivial, trivial, trivial, trivial, trivial, trivial, trivial, trivial, trivial, trivial⟩ ?_
  refine T_reg [{}, { d := some (.tup [(.agg [(.sl 2 (([⟨3, 0⟩, ⟨5, 0⟩] : List Pay).map encPay)), (.sl 4 (([⟨1, 3, [], 1⟩] : List Hold).map encHold))]), (I 0)]) }] [3, 4, 6, 8, 9, 10] [] (mk 98 [(3, (.one (.ref 3 0))), (4, (dt (I 0))), (6, (dt (I 390))), (8, (dt (I 1))), (9, (.one (.ref 9 0))), (10, (dt (I 0)))] [(9, (.var [(.dat (.sl 2 (([⟨3, 0⟩, ⟨5, 0⟩] : List Pay).map encPay))), (.dat (.sl 4 (([⟨1, 3, [], 1⟩] : List Hold).map encHold)))])), (3, (.var [(.dat (.sl 2 (([⟨3, 0⟩, ⟨5, 0⟩] : List Pay).map encPay))), (.dat (.sl 4 (([] : List Hold).map encHold)))]))]) (True ∧ True ∧ True ∧ (Ret Try.prog 24 [(.agg [(.sl 2 (([⟨3, 0⟩, ⟨5, 0⟩] : List Pay).map encPay)), (.sl 4 (([] : List Hold).map encHold))]), (I 1), (I 3), nilS] (.tup [(.agg [(.sl 2 (([⟨3, 0⟩, ⟨5, 0⟩] : List Pay).map encPay)), (.sl 4 (([⟨1, 3, [], 1⟩] : List Hold).map encHold))]), (I 0)])) ∧ True ∧ True ∧ True ∧ True ∧ True ∧ True ∧ True ∧ True ∧ True ∧ True ∧ True ∧ True ∧ True) (by kernel_rfl) ⟨trivial, trivial, trivial, (Ret.weak (Ret.to (ret_hold (⟨([⟨3, 0⟩, ⟨5, 0⟩] : List Pay), ([] : List Hold)⟩ : House) ((by exact ⟨by simp, by simp, by simp⟩ : Fits (⟨([⟨3, 0⟩, ⟨5, 0⟩] : List Pay), ([] : List Hold)⟩ : House))).1 ((by exact ⟨by simp, by simp, by simp⟩ : Fits (⟨([⟨3, 0⟩, ⟨5, 0⟩] : List Pay), ([] : List Hold)⟩ : House))).2.1 ((by exact ⟨by simp, by simp, by simp⟩ : Fits (⟨([⟨3, 0⟩, ⟨5, 0⟩] : List Pay), ([] : List Hold)⟩ : House))).2.2 1 3 ([] : List Pay) (by simp)) (by rw [ex8]; first | done | rfl)) ⟨Weak.refl _, Weak.refl _, Weak.refl _, Weak.nil 2, trivial⟩), trivial, trivial, trivial, trivial, trivial, trivial, trivial, trivial, trivial, trivial, trivial, trivial, trivial⟩ ?_
  refine T_reg [{}, { d := some (.tup [(.agg [(.sl 2 ((settled (⟨([⟨3, 0⟩, ⟨5, 0⟩] : List Pay), ([⟨1, 3, [], 1⟩] : List Hold)⟩ : House) 1 true).1.b.map encPay)), (.sl 4 ((settled (⟨([⟨3, 0⟩, ⟨5, 0⟩] : List Pay), ([⟨1, 3, [], 1⟩] : List Hold)⟩ : House) 1 true).1.h.map encHold))]), (I 0)]) }] [3, 4, 6, 8, 10, 12] [11, 9] (mk 98 [(3, (.one (.ref 3 0))), (4, (dt (I 0))), (6, (dt (I 390))), (8, (dt (I 1))), (10, (dt (I 0))), (12, (dt (I 0)))] [(3, (.var [(.dat (.sl 2 (([⟨3, 0⟩, ⟨5, 0⟩] : List Pay).map encPay))), (.dat (.sl 4 (([] : List Hold).map encHold)))]))]) (True ∧ True ∧ True ∧ (Ret Try.prog 26 [(.agg [(.sl 2 (([⟨3, 0⟩, ⟨5, 0⟩] : List Pay).map encPay)), (.sl 4 (([⟨1, 3, [], 1⟩] : List Hold).map encHold))]), (I 1), (B true)] (.tup [(.agg [(.sl 2 ((settled (⟨([⟨3, 0⟩, ⟨5, 0⟩] : List Pay), ([⟨1, 3, [], 1⟩] : List Hold)⟩ : House) 1 true).1.b.map encPay)), (.sl 4 ((settled (⟨([⟨3, 0⟩, ⟨5, 0⟩] : List Pay), ([⟨1, 3, [], 1⟩] : List Hold)⟩ : House) 1 true).1.h.map encHold))]), (I 0)])) ∧ True ∧ True ∧ True ∧ True ∧ True ∧ True ∧ True ∧ True ∧ True ∧ True ∧ True ∧ True ∧ True) (by kernel_rfl) ⟨trivial, trivial, trivial, (Ret.to (ret_settle (⟨([⟨3, 0⟩, ⟨5, 0⟩] : List Pay), ([⟨1, 3, [], 1⟩] : List Hold)⟩ : House) ((by exact ⟨by simp, by simp, by simp⟩ : Fits (⟨([⟨3, 0⟩, ⟨5, 0⟩] : List Pay), ([⟨1, 3, [], 1⟩] : List Hold)⟩ : House))).1 ((by exact ⟨by simp, by simp, by simp⟩ : Fits (⟨([⟨3, 0⟩, ⟨5, 0⟩] : List Pay), ([⟨1, 3, [], 1⟩] : List Hold)⟩ : House))).2.1 ((by exact ⟨by simp, by simp, by simp⟩ : Fits (⟨([⟨3, 0⟩, ⟨5, 0⟩] : List Pay), ([⟨1, 3, [], 1⟩] : List Hold)⟩ : House))).2.2 _ _) (by rw [ex9])), trivial, trivial, trivial, trivial, trivial, trivial, trivial, trivial, trivial, trivial, trivial, trivial, trivial⟩ ?_
  refine T_reg [{}, {}, {}, {}, {}, { d := some (B true) }, {}, {}, {}, { d := some (B true) }, {}, {}, {}, { d := some (B true) }, {}, {}, {}, { d := some (B true) }, {}, {}, { d := some (I 1) }, {}, { d := some (B true) }, {}, {}, { d := some (I 0) }, {}, { d := some (B true) }] [0] [3] (mk 98 [(0, (dt (B true)))] []) (True ∧ True ∧ True ∧ True ∧ True ∧ True ∧ ((true == true) = true) ∧ True ∧ ((true == true) = true) ∧ True ∧ True ∧ (true = true) ∧ True ∧ True ∧ ((true == true) = true) ∧ True ∧ ((true == true) = true) ∧ True ∧ True ∧ (true = true) ∧ True ∧ True ∧ ((true == true) = true) ∧ True ∧ ((true == true) = true) ∧ True ∧ True ∧ (true = true) ∧ True ∧ True ∧ ((true == true) = true) ∧ True ∧ ((true == true) = true) ∧ True ∧ True ∧ (true = true) ∧ True ∧ True ∧ ((true == true) = true) ∧ True ∧ ((true == true) = true) ∧ (Ret Try.prog 17 [(.agg [nilS, nilS])] (I 1)) ∧ ((true == true) = true) ∧ True ∧ True ∧ (true = true) ∧ True ∧ True ∧ ((true == true) = true) ∧ True ∧ ((true == true) = true) ∧ (Ret Try.prog 19 [(.agg [(.sl 2 (([⟨3, 0⟩, ⟨5, 0⟩] : List Pay).map encPay)), (.sl 4 (([] : List Hold).map encHold))])] (I 0)) ∧ ((true == true) = true) ∧ True ∧ True ∧ (true = true) ∧ True ∧ True ∧ True) (by kernel_rfl) ⟨trivial, trivial, trivial, trivial, trivial, trivial, (by rw [show true = true from rfl]; rfl), trivial, (by rw [show true = true from rfl]; rfl), trivial, trivial, rfl, trivial, trivial, (by rw [show true = true from rfl]; rfl), trivial, (by rw [show true = true from rfl]; rfl), trivial, trivial, rfl, trivial, trivial, (by rw [show true = true from rfl]; rfl), trivial, (by rw [show true = true from rfl]; rfl), trivial, trivial, rfl, trivial, trivial, (by rw [show true = true from rfl]; rfl), trivial, (by rw [show true = true from rfl]; rfl), trivial, trivial, rfl, trivial, trivial, (by rw [show true = true from rfl]; rfl), trivial, (by rw [show true = true from rfl]; rfl), (Ret.weak (Ret.to (ret_check (⟨([] : List Pay), ([] : List Hold)⟩ : House) ((by exact ⟨by simp, by simp, by simp⟩ : Fits (⟨([] : List Pay), ([] : List Hold)⟩ : House))).1 ((by exact ⟨by simp, by simp, by simp⟩ : Fits (⟨([] : List Pay), ([] : List Hold)⟩ : House))).2.1 ((by exact ⟨by simp, by simp, by simp⟩ : Fits (⟨([] : List Pay), ([] : List Hold)⟩ : House))).2.2) (by rw [ex10])) ⟨(Weak.agg ⟨Weak.nil 2, Weak.nil 4, trivial⟩), trivial⟩), (by rw [show true = true from rfl]; rfl), trivial, trivial, rfl, trivial, trivial, (by rw [show true = true from rfl]; rfl), trivial, (by rw [show true = true from rfl]; rfl), (Ret.to (ret_total (⟨([⟨3, 0⟩, ⟨5, 0⟩] : List Pay), ([] : List Hold)⟩ : House) ((by exact ⟨by simp, by simp, by simp⟩ : Fits (⟨([⟨3, 0⟩, ⟨5, 0⟩] : List Pay), ([] : List Hold)⟩ : House))).1 ((by exact ⟨by simp, by simp, by simp⟩ : Fits (⟨([⟨3, 0⟩, ⟨5, 0⟩] : List Pay), ([] : List Hold)⟩ : House))).2.1 ((by exact ⟨by simp, by simp, by simp⟩ : Fits (⟨([⟨3, 0⟩, ⟨5, 0⟩] : List Pay), ([] : List Hold)⟩ : House))).2.2) (by rw [ex11])), (by rw [show true = true from rfl]; rfl), trivial, trivial, rfl, trivial, trivial, trivial⟩ ?_
  refine T_ret ?_
  exact ret_here [(dt (B true))] (by kernel_rfl) (.inl rfl)

end Go.Proofs.Ytpkbecaailhhmaa

/-
  Plain laws of chapter 39, second part: exact sums; validity; what each movement keeps.
-/
set_option linter.unusedVariables false
set_option linter.unusedSimpArgs false
namespace Go.Proofs.Ytpkbecaailhhmaa
open Go.DL

def sumZ : List Pay → Int
  | [] => 0
  | p :: l => p.a + sumZ l
def heldZ : List Hold → Int
  | [] => 0
  | x :: l => (if x.s = 1 then sumZ x.ps else 0) + heldZ l
def totZ (h : House) : Int := sumZ h.b + heldZ h.h
def amtZ (c : Int) : List Pay → Int
  | [] => 0
  | p :: ps => (if p.c = c then p.a else 0) + amtZ c ps
def Small (l : List Pay) : Prop := ∀ x ∈ l, 0 ≤ x.a ∧ x.a ≤ 1125899906842624

theorem wrap_in {x : Int} (h1 : -9223372036854775808 ≤ x) (h2 : x ≤ 9223372036854775807) : IntKind.i64.wrap x = x := i64_wrap h1 h2
theorem sumZ_nonneg {l : List Pay} (h : ∀ x ∈ l, 0 ≤ x.a) : 0 ≤ sumZ l := by
  induction l with
  | nil => exact Int.le_refl 0
  | cons p l ih =>
    have h1 := h p List.mem_cons_self
    have h2 := ih fun x hx => h x (List.mem_cons_of_mem _ hx)
    simp only [sumZ]; omega
theorem sumZ_mem {l : List Pay} (h : ∀ x ∈ l, 0 ≤ x.a) {x : Pay} (hx : x ∈ l) : x.a ≤ sumZ l := by
  induction l with
  | nil => cases hx
  | cons p l ih =>
    have h1 := h p List.mem_cons_self
    have h2 := sumZ_nonneg fun x hx => h x (List.mem_cons_of_mem _ hx)
    simp only [sumZ]
    rcases List.mem_cons.1 hx with rfl | hx
    · omega
    · have := ih (fun x hx => h x (List.mem_cons_of_mem _ hx)) hx; omega
theorem sumFrom_eq {l : List Pay} (h : Small l) : ∀ {n : Int}, 0 ≤ n → n + (l.length : Int) * 1125899906842624 ≤ 9223372036854775807 → sumFrom n l = n + sumZ l := by
  induction l with
  | nil => intro n _ _; simp [sumFrom, sumZ]
  | cons p l ih =>
    intro n hn hb
    have h1 := h p List.mem_cons_self
    simp only [List.length_cons] at hb
    rw [sumFrom, wrap_in (by omega) (by omega), ih (fun x hx => h x (List.mem_cons_of_mem _ hx)) (by omega) (by omega)]
    simp only [sumZ]; omega
theorem payLoop_spec {has : Int → Bool} {l : List Pay} : ∀ {p : Option Int} {n : Int}, payLoop has p n l = true → (∀ x ∈ l, has x.c = true ∧ 1 ≤ x.a ∧ x.a ≤ 1125899906842624 ∧ ∀ q, p = some q → q < x.c) ∧ (l.map (·.c)).Pairwise (· < ·) ∧
    (0 ≤ n → n + (l.length : Int) * 1125899906842624 ≤ 9223372036854775807 → n + sumZ l ≤ 1125899906842624) := by
  induction l with
  | nil => intro p n h; rw [payLoop, decide_eq_true_eq] at h; exact ⟨by simp, List.Pairwise.nil, fun _ _ => by simp [sumZ]; exact h⟩
  | cons x l ih =>
    intro p n h
    rw [payLoop] at h
    split at h
    · cases h
    · rename_i hc
      obtain ⟨h1, h2, h3⟩ := ih h
      have hx : has x.c = true := by cases hh : has x.c with | true => rfl | false => exact absurd (.inl hh) hc
      have ha : 1 ≤ x.a := Int.not_lt.1 fun e => hc (.inr (.inl e))
      have hb : x.a ≤ 1125899906842624 := Int.not_lt.1 fun e => hc (.inr (.inr (.inl e)))
      have hp : ∀ q, p = some q → q < x.c := by
        rintro q rfl
        exact Int.not_le.1 fun e => hc (.inr (.inr (.inr (by simpa [notBehind] using e))))
      refine ⟨fun y hy => ?_, ?_, fun hn hl => ?_⟩
      · rcases List.mem_cons.1 hy with rfl | hy
        · exact ⟨hx, ha, hb, hp⟩
        · obtain ⟨g1, g2, g3, g4⟩ := h1 y hy
          exact ⟨g1, g2, g3, fun q hq => by have := hp q hq; have := g4 _ rfl; omega⟩
      · rw [List.map_cons, List.pairwise_cons]
        refine ⟨fun c hcm => ?_, h2⟩
        obtain ⟨y, hy, rfl⟩ := List.mem_map.1 hcm
        exact (h1 y hy).2.2.2 _ rfl
      · simp only [List.length_cons] at hl
        have := h3 (by rw [wrap_in (by omega) (by omega)]; omega) (by rw [wrap_in (by omega) (by omega)]; omega)
        rw [wrap_in (by omega) (by omega)] at this
        simp only [sumZ]; omega
structure Pays (has : Int → Bool) (l : List Pay) : Prop where
  len : l.length ≤ 64
  has : ∀ x ∈ l, has x.c = true
  pos : ∀ x ∈ l, 1 ≤ x.a ∧ x.a ≤ 1125899906842624
  pw : (l.map (·.c)).Pairwise (· < ·)
  sum : sumZ l ≤ 1125899906842624
theorem pays_of {has : Int → Bool} {l : List Pay} (h : paysOK has l = true) : Pays has l := by
  unfold paysOK at h
  split at h
  · cases h
  · obtain ⟨h1, h2, h3⟩ := payLoop_spec h
    have := h3 (Int.le_refl 0) (by omega)
    exact ⟨by omega, fun x hx => (h1 x hx).1, fun x hx => ⟨(h1 x hx).2.1, (h1 x hx).2.2.1⟩, h2, by omega⟩
theorem pays_small {has : Int → Bool} {l : List Pay} (h : Pays has l) : Small l := fun x hx => ⟨by have := h.pos x hx; omega, (h.pos x hx).2⟩
theorem pays_sum0 {has : Int → Bool} {l : List Pay} (h : Pays has l) : sumFrom 0 l = sumZ l := by
  have := h.len
  rw [sumFrom_eq (pays_small h) (Int.le_refl 0) (by omega)]; omega
structure HoldV (has : Int → Bool) (x : Hold) : Prop where
  t1 : 1 ≤ x.t
  t2 : x.t ≤ 4096
  hp : has x.p = true
  ps : Pays has x.ps
  pk : paysOK has x.ps = true
  s1 : 1 ≤ x.s
  s2 : x.s ≤ 3
theorem holdV_iff {has : Int → Bool} {x : Hold} : holdOK has none x = true ↔ HoldV has x := by
  simp only [holdOK, Bool.and_eq_true, decide_eq_true_eq, Bool.not_eq_true', notBehind]
  constructor
  · rintro ⟨h1, h2, _, h3, h4, h5, h6⟩
    exact ⟨h1, h2, h3, pays_of h4, h4, h5, h6⟩
  · intro h
    exact ⟨h.t1, h.t2, trivial, h.hp, h.pk, h.s1, h.s2⟩
theorem heldFrom_eq {has : Int → Bool} {l : List Hold} (h : ∀ x ∈ l, HoldV has x) : ∀ {n : Int}, 0 ≤ n → n + (l.length : Int) * 1125899906842624 ≤ 9223372036854775807 → heldFrom n l = n + heldZ l := by
  induction l with
  | nil => intro n _ _; simp [heldFrom, heldZ]
  | cons x l ih =>
    intro n hn hb
    have h1 := h x List.mem_cons_self
    have h2 := h1.ps.sum
    have h3 := sumZ_nonneg (fun y hy => (pays_small h1.ps y hy).1)
    simp only [List.length_cons] at hb
    rw [heldFrom, pays_sum0 h1.ps]
    simp only [heldZ]
    split
    · rw [wrap_in (by omega) (by omega), ih (fun x hx => h x (List.mem_cons_of_mem _ hx)) (by omega) (by omega)]; omega
    · rw [ih (fun x hx => h x (List.mem_cons_of_mem _ hx)) (by omega) (by omega)]; omega
theorem heldZ_nonneg {has : Int → Bool} {l : List Hold} (h : ∀ x ∈ l, HoldV has x) : 0 ≤ heldZ l := by
  induction l with
  | nil => exact Int.le_refl 0
  | cons x l ih =>
    have h1 := h x List.mem_cons_self
    have h3 := sumZ_nonneg (fun y hy => (pays_small h1.ps y hy).1)
    have := ih fun x hx => h x (List.mem_cons_of_mem _ hx)
    simp only [heldZ]; split <;> omega
theorem heldZ_append (a b : List Hold) : heldZ (a ++ b) = heldZ a + heldZ b := by
  induction a with
  | nil => simp [heldZ]
  | cons x a ih => simp only [List.cons_append, heldZ, ih]; omega
def valZ (x : Hold) : Int := if x.s = 1 then sumZ x.ps else 0
theorem heldZ_set {l : List Hold} {k : Nat} {x : Hold} (h : l[k]? = some x) (y : Hold) : heldZ (l.set k y) = heldZ l - valZ x + valZ y := by
  induction l generalizing k with
  | nil => simp at h
  | cons z l ih =>
    cases k with
    | zero => simp at h; subst h; simp only [List.set_cons_zero, heldZ, valZ]; omega
    | succ k =>
      have := ih (k := k) (by simpa using h)
      simp only [List.set_cons_succ, heldZ, this]; omega
theorem heldZ_ins (l : List Hold) (k : Nat) (y : Hold) : heldZ (l.take k ++ [y] ++ l.drop k) = heldZ l + valZ y := by
  have h1 := heldZ_append (l.take k) (l.drop k)
  rw [List.take_append_drop] at h1
  rw [heldZ_append, heldZ_append, h1]
  simp only [heldZ, valZ]; omega
theorem pw_len {l : List Int} (hp : l.Pairwise (· < ·)) : ∀ {a b : Int}, a ≤ b + 1 → (∀ x ∈ l, a ≤ x ∧ x ≤ b) → (l.length : Int) ≤ b - a + 1 := by
  induction l with
  | nil => intro a b h _; simp; omega
  | cons x l ih =>
    intro a b h hx
    rw [List.pairwise_cons] at hp
    have h0 := hx x List.mem_cons_self
    have := ih hp.2 (a := x + 1) (b := b) (by omega) fun y hy => ⟨by have := hp.1 y hy; omega, (hx y (List.mem_cons_of_mem _ hy)).2⟩
    simp only [List.length_cons]; omega

/-- A valid house, in exact numbers. -/
structure V (h : House) : Prop where
  cl : areClubs (h.b.map (·.c)) = true
  nn : ∀ x ∈ h.b, 0 ≤ x.a
  pw : (h.h.map (·.t)).Pairwise (· < ·)
  ho : ∀ x ∈ h.h, HoldV (hasR h) x
  to : totZ h ≤ 1125899906842624
theorem clubs_range {l : List Int} (h : areClubs l = true) : ∀ c ∈ l, 0 ≤ c ∧ c < 192 := by
  unfold areClubs at h
  rw [Bool.and_eq_true] at h
  exact fun c hc => ((inc_pw h.1).1 c hc).2
theorem V.lb {h : House} (v : V h) : h.b.length ≤ 192 := by
  have := pw_len (clubs_pw v.cl) (a := 0) (b := 191) (by omega) fun x hx => by have := clubs_range v.cl x hx; omega
  rw [List.length_map] at this; omega
theorem V.lh {h : House} (v : V h) : h.h.length ≤ 4096 := by
  have := pw_len v.pw (a := 1) (b := 4096) (by omega) fun x hx => by
    obtain ⟨y, hy, rfl⟩ := List.mem_map.1 hx
    exact ⟨(v.ho y hy).t1, (v.ho y hy).t2⟩
  rw [List.length_map] at this; omega
theorem V.small {h : House} (v : V h) : Small h.b := fun x hx => ⟨v.nn x hx, by
  have h1 := sumZ_mem v.nn hx
  have h2 := heldZ_nonneg v.ho
  have h3 := v.to
  unfold totZ at h3; omega⟩
theorem total_of {h : House} (hs : Small h.b) (hb : h.b.length ≤ 192) (hl : h.h.length ≤ 4096) (ho : ∀ x ∈ h.h, HoldV (hasR h) x) : total h = totZ h := by
  unfold total totZ
  have h0 : sumFrom 0 h.b = sumZ h.b := by rw [sumFrom_eq hs (Int.le_refl 0) (by omega)]; omega
  have h1 := sumZ_nonneg (fun y hy => (hs y hy).1)
  have h2 : sumZ h.b ≤ (h.b.length : Int) * 1125899906842624 := by
    clear h0 h1 hb
    generalize h.b = l at hs ⊢
    induction l with
    | nil => simp [sumZ]
    | cons p l ih =>
      have := hs p List.mem_cons_self
      have := ih fun x hx => hs x (List.mem_cons_of_mem _ hx)
      simp only [sumZ, List.length_cons]; omega
  rw [h0, heldFrom_eq ho h1 (by omega)]
theorem V.total {h : House} (v : V h) : total h = totZ h := total_of v.small v.lb v.lh v.ho
theorem amounts_of {l : List Pay} : amountsOK l = true ↔ Small l := by
  induction l with
  | nil => simp [amountsOK, Small]
  | cons p l ih =>
    rw [amountsOK]
    constructor
    · intro h
      split at h
      · cases h
      · intro x hx
        rcases List.mem_cons.1 hx with rfl | hx
        · omega
        · exact ih.1 h x hx
    · intro h
      have := h p List.mem_cons_self
      rw [if_neg (by omega)]
      exact ih.2 fun x hx => h x (List.mem_cons_of_mem _ hx)
theorem V.check {h : House} (v : V h) : check h = 0 :=
  check_of_ok ⟨v.lb, v.lh, amounts_of.2 v.small, v.cl, pw_holds v.pw fun x hx => ⟨holdV_iff.2 (v.ho x hx), fun _ h => by cases h⟩, by rw [v.total]; exact v.to⟩
/-! ### credits in exact numbers -/
theorem addAll_a {ps : List Pay} (hp : ∀ p ∈ ps, -1125899906842624 ≤ p.a ∧ p.a ≤ 1125899906842624) : ∀ {x : Pay} {B : Int}, -B ≤ x.a → x.a ≤ B → B + (ps.length : Int) * 1125899906842624 ≤ 9223372036854775807 → (addAll x ps).a = x.a + amtZ x.c ps := by
  induction ps with
  | nil => intro x B _ _ _; simp [addAll, amtZ]
  | cons p ps ih =>
    intro x B h1 h2 hb
    have hp0 := hp p List.mem_cons_self
    simp only [List.length_cons] at hb
    rw [addAll_cons]
    have hc := add1_c p x
    by_cases h : p.c = x.c
    · have ha : (add1 p x).a = x.a + p.a := by unfold add1; rw [if_pos h, wrap_in (by omega) (by omega)]
      rw [ih (fun q hq => hp q (List.mem_cons_of_mem _ hq)) (B := B + 1125899906842624) (by omega) (by omega) (by omega), ha, hc]
      simp only [amtZ, if_pos h]; omega
    · have ha : add1 p x = x := by unfold add1; rw [if_neg h]
      rw [ha, ih (fun q hq => hp q (List.mem_cons_of_mem _ hq)) (B := B) h1 h2 (by omega)]
      simp only [amtZ, if_neg h]; omega
def Mod (ps : List Pay) : Prop := ps.length ≤ 64 ∧ ∀ p ∈ ps, -1125899906842624 ≤ p.a ∧ p.a ≤ 1125899906842624
theorem V.add {h : House} (v : V h) {ps : List Pay} (m : Mod ps) {x : Pay} (hx : x ∈ h.b) : (addAll x ps).a = x.a + amtZ x.c ps := by
  have := v.small x hx
  have := m.1
  exact addAll_a m.2 (B := 1125899906842624) (by omega) (by omega) (by omega)
theorem amt_nonneg {c : Int} {ps : List Pay} (h : ∀ p ∈ ps, 0 ≤ p.a) : 0 ≤ amtZ c ps := by
  induction ps with
  | nil => exact Int.le_refl 0
  | cons p ps ih =>
    have := h p List.mem_cons_self
    have := ih fun q hq => h q (List.mem_cons_of_mem _ hq)
    rw [amtZ]; split <;> omega
def sumC (f : Int → Int) : List Int → Int
  | [] => 0
  | c :: l => f c + sumC f l
theorem sumC_add (f g : Int → Int) (l : List Int) : sumC (fun c => f c + g c) l = sumC f l + sumC g l := by
  induction l with
  | nil => rfl
  | cons c l ih => simp only [sumC, ih]; omega
theorem sumC_zero {f : Int → Int} {l : List Int} (h : ∀ c ∈ l, f c = 0) : sumC f l = 0 := by
  induction l with
  | nil => rfl
  | cons c l ih => rw [sumC, h c List.mem_cons_self, ih fun x hx => h x (List.mem_cons_of_mem _ hx)]; rfl
theorem sumC_one {l : List Int} (hp : l.Pairwise (· < ·)) {k : Int} (hk : k ∈ l) (a : Int) : sumC (fun c => if k = c then a else 0) l = a := by
  induction l with
  | nil => cases hk
  | cons c l ih =>
    rw [List.pairwise_cons] at hp
    rw [sumC]
    by_cases h : k = c
    · subst h
      rw [if_pos rfl, sumC_zero fun x hx => by have := hp.1 x hx; rw [if_neg (by omega)]]; omega
    · rw [if_neg h, ih hp.2 ((List.mem_cons.1 hk).resolve_left h)]; omega
theorem sumC_amt {l : List Int} (hp : l.Pairwise (· < ·)) {ps : List Pay} (h : ∀ p ∈ ps, p.c ∈ l) : sumC (fun c => amtZ c ps) l = sumZ ps := by
  induction ps with
  | nil => exact sumC_zero fun _ _ => rfl
  | cons p ps ih =>
    have := sumC_add (fun c => if p.c = c then p.a else 0) (fun c => amtZ c ps) l
    simp only [amtZ, sumZ]
    rw [this, sumC_one hp (h p List.mem_cons_self), ih fun q hq => h q (List.mem_cons_of_mem _ hq)]
theorem sumZ_cred {h : House} (v : V h) {ps : List Pay} (m : Mod ps) (hc : ∀ p ∈ ps, p.c ∈ h.b.map (·.c)) : sumZ (cred h.b ps) = sumZ h.b + sumZ ps := by
  rw [cred_eq (clubs_pw v.cl), ← sumC_amt (clubs_pw v.cl) hc]
  have key : ∀ l : List Pay, (∀ x ∈ l, x ∈ h.b) → sumZ (l.map fun x => addAll x ps) = sumZ l + sumC (fun c => amtZ c ps) (l.map (·.c)) := by
    intro l
    induction l with
    | nil => intro _; rfl
    | cons x l ih =>
      intro hl
      simp only [List.map_cons, sumZ, sumC, v.add m (hl x List.mem_cons_self), ih fun y hy => hl y (List.mem_cons_of_mem _ hy)]; omega
  exact key h.b fun _ hx => hx
theorem bal_cred {h : House} (v : V h) {ps : List Pay} (m : Mod ps) (c : Int) (hc : c ∈ h.b.map (·.c)) : (bal c (cred h.b ps)).1 = (bal c h.b).1 + amtZ c ps := by
  rw [cred_eq (clubs_pw v.cl)]
  have key : ∀ l : List Pay, (∀ x ∈ l, x ∈ h.b) → c ∈ l.map (·.c) → (bal c (l.map fun x => addAll x ps)).1 = (bal c l).1 + amtZ c ps := by
    intro l
    induction l with
    | nil => intro _ hc; cases hc
    | cons x l ih =>
      intro hl hcl
      simp only [List.map_cons, bal, addAll_c]
      by_cases hx : x.c = c
      · rw [if_pos hx, if_pos hx, v.add m (hl x List.mem_cons_self), hx]
      · rw [if_neg hx, if_neg hx]
        refine ih (fun y hy => hl y (List.mem_cons_of_mem _ hy)) ?_
        rw [List.map_cons, List.mem_cons] at hcl
        exact hcl.resolve_left fun e => hx e.symm
  exact key h.b (fun _ hx => hx) hc
theorem bal_get {b : List Pay} (hp : (b.map (·.c)).Pairwise (· < ·)) {x : Pay} (hx : x ∈ b) : (bal x.c b).1 = x.a := by
  induction b with
  | nil => cases hx
  | cons y l ih =>
    rw [List.map_cons, List.pairwise_cons] at hp
    rw [bal]
    rcases List.mem_cons.1 hx with rfl | hx
    · rw [if_pos rfl]
    · have := hp.1 _ (List.mem_map.2 ⟨x, hx, rfl⟩)
      rw [if_neg (by omega), ih hp.2 hx]
theorem hasR_mem {h : House} {c : Int} : hasR h c = true ↔ c ∈ h.b.map (·.c) := by
  unfold hasR; rw [bal_mem, decide_eq_true_eq]
theorem hasR_cred {h : House} (v : V h) (ps : List Pay) (H : List Hold) : hasR ⟨cred h.b ps, H⟩ = hasR h := by
  funext c
  unfold hasR
  rw [bal_mem, bal_mem, cred_c (clubs_pw v.cl)]
theorem V.cred {h : House} (v : V h) {ps : List Pay} (m : Mod ps) (hc : ∀ p ∈ ps, p.c ∈ h.b.map (·.c)) (hn : ∀ x ∈ h.b, 0 ≤ x.a + amtZ x.c ps) {H : List Hold} (hpw : (H.map (·.t)).Pairwise (· < ·)) (hho : ∀ x ∈ H, HoldV (hasR h) x)
    (ht : sumZ h.b + sumZ ps + heldZ H ≤ 1125899906842624) : V ⟨cred h.b ps, H⟩ ∧ totZ ⟨cred h.b ps, H⟩ = sumZ h.b + sumZ ps + heldZ H := by
  have e : totZ ⟨Go.Proofs.Ytpkbecaailhhmaa.cred h.b ps, H⟩ = sumZ h.b + sumZ ps + heldZ H := by unfold totZ; rw [sumZ_cred v m hc]
  refine ⟨⟨?_, ?_, hpw, ?_, by rw [e]; exact ht⟩, e⟩
  · show areClubs ((Go.Proofs.Ytpkbecaailhhmaa.cred h.b ps).map (·.c)) = true
    rw [cred_c (clubs_pw v.cl)]; exact v.cl
  · intro y hy
    rw [cred_eq (clubs_pw v.cl)] at hy
    obtain ⟨x, hx, rfl⟩ := List.mem_map.1 hy
    rw [v.add m hx]
    exact hn x hx
  · rw [hasR_cred v]; exact hho
end Go.Proofs.Ytpkbecaailhhmaa

/-
  Plain laws of chapter 39, third part: what each movement makes of a valid house.
-/
set_option linter.unusedVariables false
set_option linter.unusedSimpArgs false
namespace Go.Proofs.Ytpkbecaailhhmaa
open Go.DL

theorem V.tot0 {h : House} (v : V h) : 0 ≤ totZ h := by
  have := sumZ_nonneg v.nn
  have := heldZ_nonneg v.ho
  unfold totZ; omega
theorem mod_one {c a : Int} (h1 : -1125899906842624 ≤ a) (h2 : a ≤ 1125899906842624) : Mod [⟨c, a⟩] :=
  ⟨by simp, fun p hp => by rw [List.mem_singleton] at hp; subst hp; exact ⟨h1, h2⟩⟩
theorem mod_pays {has : Int → Bool} {l : List Pay} (h : Pays has l) : Mod l :=
  ⟨h.len, fun p hp => by have := h.pos p hp; omega⟩
theorem paid_ok {h h' : House} {c a : Int} (v : V h) (e : paid h c a = (h', 0)) :
    V h' ∧ h'.b.map (·.c) = h.b.map (·.c) ∧ totZ h' = totZ h + a ∧ h'.h = h.h ∧ 1 ≤ a ∧ a ≤ 1125899906842624 := by
  unfold paid at e
  rw [v.check] at e
  simp only [ne_eq, not_true_eq_false, if_false] at e
  split at e
  · simp at e
  · rename_i hc
    split at e
    · simp at e
    · rename_i ht
      obtain ⟨rfl, _⟩ := Prod.mk.inj e
      have ha : 1 ≤ a := Int.not_lt.1 fun x => hc (.inr (.inl x))
      have hb : a ≤ 1125899906842624 := Int.not_lt.1 fun x => hc (.inr (.inr x))
      have hh : hasB h c = true := by cases q : hasB h c with | true => rfl | false => exact absurd (.inl q) hc
      rw [hasB_eq v.cl] at hh
      have t0 := v.tot0
      have t1 := v.to
      rw [v.total, wrap_in (by omega) (by omega)] at ht
      have hm : sumZ h.b + sumZ [⟨c, a⟩] + heldZ h.h = totZ h + a := by simp only [sumZ, totZ]; omega
      obtain ⟨v', e'⟩ := v.cred (ps := [⟨c, a⟩]) (mod_one (by omega) hb) (fun p hp => by rw [List.mem_singleton] at hp; subst hp; exact hasR_mem.1 hh)
        (fun x hx => by have := v.nn x hx; have := amt_nonneg (c := x.c) (ps := [⟨c, a⟩]) (fun p hp => by rw [List.mem_singleton] at hp; subst hp; exact (by omega : 0 ≤ a)); omega) v.pw v.ho (by rw [hm]; omega)
      exact ⟨v', cred_c (clubs_pw v.cl) _, by rw [e', hm], rfl, ha, hb⟩
theorem ins_pw {ks : List Int} (hp : ks.Pairwise (· < ·)) {t : Int} (ht : t ∉ ks) : (ks.take (bsAt ks t) ++ [t] ++ ks.drop (bsAt ks t)).Pairwise (· < ·) := by
  obtain ⟨h1, h2⟩ := bsAt_spec hp t
  have ha : ∀ x ∈ ks.take (bsAt ks t), x < t := by
    intro x hx
    obtain ⟨i, hi, he⟩ := List.mem_iff_getElem?.1 hx |>.elim fun i hi => (⟨i, (List.getElem?_eq_some_iff.1 hi).1, hi⟩ : ∃ i, ∃ _ : i < (ks.take (bsAt ks t)).length, (ks.take (bsAt ks t))[i]? = some x)
    rw [List.getElem?_take] at he
    split at he
    · rename_i hlt; exact h1 i x hlt he
    · cases he
  have hb : ∀ x ∈ ks.drop (bsAt ks t), t < x := by
    intro x hx
    obtain ⟨i, he⟩ := List.mem_iff_getElem?.1 hx
    rw [List.getElem?_drop] at he
    have := h2 _ x (Nat.le_add_right _ _) he
    have : t ≠ x := fun q => ht (by rw [q]; exact List.mem_of_mem_drop hx)
    omega
  have hab : (ks.take (bsAt ks t) ++ ks.drop (bsAt ks t)).Pairwise (· < ·) := by rw [List.take_append_drop]; exact hp
  rw [List.pairwise_append] at hab
  rw [List.append_assoc, List.pairwise_append]
  refine ⟨hab.1, ?_, fun x hx y hy => ?_⟩
  · rw [List.singleton_append, List.pairwise_cons]
    exact ⟨hb, hab.2.1⟩
  · rw [List.singleton_append] at hy
    rcases List.mem_cons.1 hy with rfl | hy
    · exact ha x hx
    · exact hab.2.2 x hx y hy
theorem held_ok {h h' : House} {t p : Int} {l : List Pay} (v : V h) (e : held h t p l = (h', 0)) :
    V h' ∧ h'.b.map (·.c) = h.b.map (·.c) ∧ totZ h' = totZ h ∧ t ∉ h.h.map (·.t) ∧ p ∈ h.b.map (·.c) ∧ Pays (hasR h) l ∧ h' = ⟨cred h.b [⟨p, -(sumZ l)⟩], h.h.take (bsAt (h.h.map (·.t)) t) ++ [⟨t, p, l, 1⟩] ++ h.h.drop (bsAt (h.h.map (·.t)) t)⟩ := by
  unfold held at e
  rw [v.check] at e
  simp only [ne_eq, not_true_eq_false, if_false] at e
  split at e
  · simp at e
  · rename_i hc
    split at e
    · simp at e
    · rename_i hd
      split at e
      · simp at e
      · rename_i hf
        obtain ⟨rfl, _⟩ := Prod.mk.inj e
        have h1 : 1 ≤ t := Int.not_lt.1 fun x => hc (.inl x)
        have h2 : t ≤ 4096 := Int.not_lt.1 fun x => hc (.inr (.inl x))
        have h3 : t ∉ h.h.map (·.t) := fun x => hc (.inr (.inr (by rw [bsMet_mem v.pw]; exact decide_eq_true x)))
        have h4 : hasB h p = true := by cases q : hasB h p with | true => rfl | false => exact absurd (.inl q) hd
        have h5 : paysOK (hasB h) l = true := by cases q : paysOK (hasB h) l with | true => rfl | false => exact absurd (.inr q) hd
        rw [hasB_eq v.cl] at h4 h5
        have hp := pays_of h5
        have hs := pays_sum0 hp
        have s0 := sumZ_nonneg (fun y hy => (pays_small hp y hy).1)
        have s1 := hp.sum
        rw [hs] at hf ⊢
        rw [wrap_in (by omega) (by omega), Int.zero_sub]
        have hm : sumZ h.b + sumZ [⟨p, -(sumZ l)⟩] + heldZ (h.h.take (bsAt (h.h.map (·.t)) t) ++ [⟨t, p, l, 1⟩] ++ h.h.drop (bsAt (h.h.map (·.t)) t)) = totZ h := by
          rw [heldZ_ins]; simp only [sumZ, totZ, valZ, if_true]; omega
        have t1 := v.to
        have hmem := hasR_mem.1 h4
        obtain ⟨v', e'⟩ := v.cred (ps := [⟨p, -(sumZ l)⟩]) (mod_one (by omega) (by omega)) (fun q hq => by rw [List.mem_singleton] at hq; subst hq; exact hmem)
          (fun x hx => by
            simp only [amtZ]
            by_cases hpx : p = x.c
            · have := bal_get (clubs_pw v.cl) hx
              rw [← hpx] at this
              rw [if_pos hpx]; omega
            · have := v.nn x hx
              rw [if_neg hpx]; omega)
          (H := h.h.take (bsAt (h.h.map (·.t)) t) ++ [⟨t, p, l, 1⟩] ++ h.h.drop (bsAt (h.h.map (·.t)) t))
          (by
            have := ins_pw v.pw h3
            simp only [List.map_append, List.map_take, List.map_drop, List.map_cons, List.map_nil]
            exact this)
          (fun x hx => by
            simp only [List.mem_append, List.mem_singleton] at hx
            rcases hx with (hx | hx) | hx
            · exact v.ho x (List.mem_of_mem_take hx)
            · subst hx; exact ⟨h1, h2, h4, hp, h5, (by decide : (1 : Int) ≤ 1), (by decide : (1 : Int) ≤ 3)⟩
            · exact v.ho x (List.mem_of_mem_drop hx)) (by rw [hm]; omega)
        exact ⟨v', cred_c (clubs_pw v.cl) _, by rw [e', hm], h3, hmem, hp, rfl⟩
theorem set_pw {l : List Hold} {k : Nat} {x y : Hold} (hx : l[k]? = some x) (hy : y.t = x.t) : (l.set k y).map (·.t) = l.map (·.t) := by
  refine List.ext_getElem? fun i => ?_
  rw [List.getElem?_map, List.getElem?_map, List.getElem?_set]
  split
  · rename_i hi
    subst hi
    have := (List.getElem?_eq_some_iff.1 hx).1
    rw [hx]
    simp [this, hy]
  · rfl
theorem set_ho {has : Int → Bool} {l : List Hold} {k : Nat} {y : Hold} (h : ∀ x ∈ l, HoldV has x) (hy : HoldV has y) : ∀ x ∈ l.set k y, HoldV has x := by
  intro x hx
  rcases List.mem_or_eq_of_mem_set hx with hx | rfl
  · exact h x hx
  · exact hy
/-- What settling makes: the hold at place k, with number t, held. -/
def setl (h : House) (k : Nat) (x : Hold) (pd : Bool) : House :=
  ⟨cred h.b (if pd = true then x.ps else [⟨x.p, sumZ x.ps⟩]), h.h.set k ⟨x.t, x.p, x.ps, if pd = true then 2 else 3⟩⟩
theorem settled_eq {h : House} (v : V h) {k : Nat} {x : Hold} (hx : h.h[k]? = some x) (pd : Bool) : settled h x.t pd = if x.s = 1 then (setl h k x pd, 0) else (none0, 391) := by
  have hk : (h.h.map (·.t))[k]? = some x.t := by rw [List.getElem?_map, hx]; rfl
  have hat := bsAt_of v.pw hk
  have hm : bsMet (h.h.map (·.t)) x.t = true := by rw [bsMet_mem v.pw]; exact decide_eq_true (List.mem_of_getElem? hk)
  unfold settled
  rw [v.check, hm, hat, hx]
  simp only [ne_eq, not_true_eq_false, if_false, Bool.true_eq_false]
  have hs := pays_sum0 (v.ho x (List.mem_of_getElem? hx)).ps
  by_cases h1 : x.s = 1
  · rw [if_neg (by simp [h1]), if_pos h1]
    unfold setl
    cases pd <;> simp [hs]
  · rw [if_pos h1, if_neg h1]
theorem setl_ok {h : House} (v : V h) {k : Nat} {x : Hold} (hx : h.h[k]? = some x) (hs : x.s = 1) (pd : Bool) : V (setl h k x pd) ∧ (setl h k x pd).b.map (·.c) = h.b.map (·.c) ∧ totZ (setl h k x pd) = totZ h := by
  have hv := v.ho x (List.mem_of_getElem? hx)
  have s0 := sumZ_nonneg (fun y hy => (pays_small hv.ps y hy).1)
  have s1 := hv.ps.sum
  have t1 := v.to
  have hval : valZ x = sumZ x.ps := by unfold valZ; rw [if_pos hs]
  unfold setl
  cases pd with
  | true =>
    simp only [if_true]
    have hm : sumZ h.b + sumZ x.ps + heldZ (h.h.set k ⟨x.t, x.p, x.ps, 2⟩) = totZ h := by
      rw [heldZ_set hx, hval]; simp only [valZ, totZ]; rw [if_neg (by decide)]; omega
    obtain ⟨v', e'⟩ := v.cred (ps := x.ps) (mod_pays hv.ps) (fun p hp => hasR_mem.1 (hv.ps.has p hp)) (fun y hy => by have := v.nn y hy; have := amt_nonneg (c := y.c) (fun p hp => (pays_small hv.ps p hp).1); omega)
      (H := h.h.set k ⟨x.t, x.p, x.ps, 2⟩) (by rw [set_pw (y := ⟨x.t, x.p, x.ps, 2⟩) hx rfl]; exact v.pw) (set_ho v.ho ⟨hv.t1, hv.t2, hv.hp, hv.ps, hv.pk, (by decide : (1 : Int) ≤ 2), (by decide : (2 : Int) ≤ 3)⟩) (by rw [hm]; omega)
    exact ⟨v', cred_c (clubs_pw v.cl) _, by rw [e', hm]⟩
  | false =>
    simp only [Bool.false_eq_true, if_false]
    have hm : sumZ h.b + sumZ [⟨x.p, sumZ x.ps⟩] + heldZ (h.h.set k ⟨x.t, x.p, x.ps, 3⟩) = totZ h := by
      rw [heldZ_set hx, hval]; simp only [valZ, totZ, sumZ]; rw [if_neg (by decide)]; omega
    obtain ⟨v', e'⟩ := v.cred (ps := [⟨x.p, sumZ x.ps⟩]) (mod_one (by omega) s1) (fun p hp => by rw [List.mem_singleton] at hp; subst hp; exact hasR_mem.1 hv.hp)
      (fun y hy => by have := v.nn y hy; have := amt_nonneg (c := y.c) (ps := [⟨x.p, sumZ x.ps⟩]) (fun p hp => by rw [List.mem_singleton] at hp; subst hp; exact s0); omega)
      (H := h.h.set k ⟨x.t, x.p, x.ps, 3⟩) (by rw [set_pw (y := ⟨x.t, x.p, x.ps, 3⟩) hx rfl]; exact v.pw) (set_ho v.ho ⟨hv.t1, hv.t2, hv.hp, hv.ps, hv.pk, (by decide : (1 : Int) ≤ 3), (by decide : (3 : Int) ≤ 3)⟩) (by rw [hm]; omega)
    exact ⟨v', cred_c (clubs_pw v.cl) _, by rw [e', hm]⟩
theorem new_V {cl : List Int} (e : newE cl = 0) : V ⟨newB cl, []⟩ ∧ (newB cl).map (·.c) = cl ∧ totZ ⟨newB cl, []⟩ = 0 := by
  unfold newE at e
  split at e
  · rename_i hc
    have hb : newB cl = cl.map (fun c => ⟨c, 0⟩) := by unfold newB; rw [if_pos hc]
    have hm : (newB cl).map (·.c) = cl := by rw [hb, List.map_map]; exact List.map_id cl
    have hz : totZ ⟨newB cl, []⟩ = 0 := by
      unfold totZ
      simp only [heldZ, hb]
      have : ∀ l : List Int, sumZ (l.map fun c => (⟨c, 0⟩ : Pay)) = 0 := by
        intro l
        induction l with
        | nil => rfl
        | cons c l ih => simp only [List.map_cons, sumZ, ih]; rfl
      rw [this]; rfl
    refine ⟨⟨by rw [hm]; exact hc, fun x hx => ?_, List.Pairwise.nil, (fun x hx => by cases hx), (by rw [hz]; decide)⟩, hm, hz⟩
    rw [hb] at hx
    obtain ⟨c, _, rfl⟩ := List.mem_map.1 hx
    exact Int.le_refl 0
  · cases e
end Go.Proofs.Ytpkbecaailhhmaa

/-
  Plain laws of chapter 39, fourth part: what the walks of the laws of history ask.
-/
set_option linter.unusedVariables false
set_option linter.unusedSimpArgs false
namespace Go.Proofs.Ytpkbecaailhhmaa
open Go.DL
end Go.Proofs.Ytpkbecaailhhmaa

/-
  Walks at the data level, printed by gen.py: what each Go function returns, for data that reads as said. Conditions: those of each theorem.
-/
namespace Go.Proofs.Ytpkbecaailhhmaa
open Go.DL
set_option maxRecDepth 100000
set_option linter.unusedVariables false
set_option linter.unusedSimpArgs false
end Go.Proofs.Ytpkbecaailhhmaa

/-
  Plain laws of chapter 39, fifth part: moves, settling once, the order of settlements.
-/
set_option linter.unusedVariables false
set_option linter.unusedSimpArgs false
namespace Go.Proofs.Ytpkbecaailhhmaa
open Go.DL

/-! ### moves -/
def lastA (c m : Int) : List Pay → Int
  | [] => m
  | p :: ps => lastA c (if p.c = c then p.a else m) ps
theorem pair2 {a : House × Int} (e : a.2 = 0) : a = (a.1, 0) := by rw [← e]
theorem ins_get (l : List Hold) (y : Hold) (k : Nat) (hk : k ≤ l.length) : (l.take k ++ [y] ++ l.drop k)[k]? = some y := by
  rw [List.append_assoc, List.getElem?_append_right (by rw [List.length_take]; omega), List.length_take, Nat.min_eq_left hk]
  simp
section
variable {h : House} {t p : Int} {l : List Pay}
theorem mv_V (v : V h) (e : (held h t p l).2 = 0) : V (held h t p l).1 := (held_ok v (pair2 e)).1
theorem mv_get (v : V h) (e : (held h t p l).2 = 0) : (held h t p l).1.h[bsAt (h.h.map (·.t)) t]? = some ⟨t, p, l, 1⟩ := by
  obtain ⟨_, _, _, _, _, _, he⟩ := held_ok v (pair2 e)
  rw [he]
  exact ins_get _ _ _ (bsAt_le_h _ _ _)
theorem mv_set (v : V h) (e : (held h t p l).2 = 0) (pd : Bool) : settled (held h t p l).1 t pd = (setl (held h t p l).1 (bsAt (h.h.map (·.t)) t) ⟨t, p, l, 1⟩ pd, 0) := by
  have := settled_eq (mv_V v e) (mv_get v e) pd
  rw [if_pos rfl] at this
  exact this
theorem mv_bal (v : V h) (e : (held h t p l).2 = 0) {c : Int} (hc : c ∈ h.b.map (·.c)) : (bal c (held h t p l).1.b).1 = (bal c h.b).1 + (if p = c then -(sumZ l) else 0) := by
  obtain ⟨_, _, _, _, hm, hp, he⟩ := held_ok v (pair2 e)
  have s0 := sumZ_nonneg (fun y hy => (pays_small hp y hy).1)
  have s1 := hp.sum
  rw [he]
  show (bal c (cred h.b [⟨p, -(sumZ l)⟩])).1 = _
  rw [bal_cred v (mod_one (by omega) (by omega)) c hc]
  simp only [amtZ, Int.add_zero]
end

/-! ### settling once -/
def metOf (x y : Hold) : Bool := y.t == x.t && (y.p == x.p && (x.s == 1 || y.s == x.s))
def Ext (h y : House) : Prop := ∀ x ∈ h.h, ∃ z ∈ y.h, metOf x z = true
/-! ### the order of settlements -/
end Go.Proofs.Ytpkbecaailhhmaa

/-
  The bridge from the data-level framework to a law's row: what an argument of a given type reads as, and what a returned bool says. Generic in the program; no condition.
-/
set_option linter.unusedVariables false
set_option linter.unusedSimpArgs false
namespace Go.DL
open Go.RowKit Go.ChangeShapes Go.WideShapes

/-- Whatever is read at type t, in any world, stands for a datum of α, laid as cells; Good is what the law of sizes says of it. -/
def Dec (P : Program) (t : TypeId) {α : Type} (cells : α → List D) (Good : α → Prop) : Prop :=
  ∀ (H : Type) (enc : TypeId × Value → H) (w : World) (fuel : Nat) (cs : List Value) (d : DataW H) (ps : List MemPlace), DataW.trod enc P w 0 (fun _ => true) true fuel t cs = some (d, ps) →
    ∃ a : α, cs.length = (cells a).length ∧ (∀ (j : Nat) (c : D), (cells a)[j]? = some c → ∃ v, cs[j]? = some v ∧ RelD w (fun _ => False) c v) ∧ ((∀ n ∈ d.weights P t, n ≤ reachBytes) → Good a)

/-- The same of the fields of a struct, from a place on. -/
def DecFs (P : Program) (off : Nat) (L : List (TypeId × Nat)) {α : Type} (cells : α → List D) (Good : α → Prop) : Prop :=
  ∀ (H : Type) (enc : TypeId × Value → H) (w : World) (n : Nat) (cs : List Value) (xs : List (DataW H × List MemPlace)), xs.length = L.length →
    (∀ (i : Nat) (t : TypeId) (o : Nat), L[i]? = some (t, o) → DataW.trod enc P w 0 (fun _ => true) true n t ((cs.drop o).take (P.cellsOf t)) = xs[i]?) →
    ∃ a : α, (∀ (j : Nat) (c : D), (cells a)[j]? = some c → ∃ v, cs[off + j]? = some v ∧ RelD w (fun _ => False) c v) ∧ ((∀ m ∈ DataW.weightsEach P (L.map (·.1)) (xs.map (·.1)), m ≤ reachBytes) → Good a)

def fieldsOf (P : Program) (t : TypeId) : Option (List (TypeId × Nat)) :=
  match P.underlying t with
  | some (.struct fs) => some (fs.toList.map fun f => (f.type, f.offset))
  | _ => none

section
variable {P : Program}

theorem Dec.map {t : TypeId} {α β : Type} {cells : α → List D} {Good : α → Prop} (h : Dec P t cells Good) (f : α → β) (cells' : β → List D) (Good' : β → Prop) (hc : ∀ a, cells' (f a) = cells a) (hg : ∀ a, Good a → Good' (f a)) : Dec P t cells' Good' := by
  intro H enc w fuel cs d ps hd
  obtain ⟨a, h1, h2, h3⟩ := h H enc w fuel cs d ps hd
  exact ⟨f a, by rw [hc]; exact h1, by rw [hc]; exact h2, fun hw => hg a (h3 hw)⟩

theorem one_get {w : World} {A : Nat → Prop} {d : D} {v : Value} (h : RelD w A d v) : ∀ (j : Nat) (c : D), [d][j]? = some c → ∃ u, [v][j]? = some u ∧ RelD w A c u := by
  intro j c hj
  cases j with
  | zero => simp at hj; subst hj; exact ⟨v, rfl, h⟩
  | succ j => simp at hj

theorem Dec.int {t : TypeId} {k : IntKind} (ht : P.underlying t = some (.int k)) : Dec P t (fun n : Int => [.int k n]) (fun n => (Lit.int k n).wf = true) := by
  intro H enc w fuel cs d ps hd
  obtain ⟨n, rfl, _, hwf⟩ := DataW.trod_int ht hd
  exact ⟨n, rfl, one_get (.int _ _), fun _ => hwf⟩

theorem Dec.bool {t : TypeId} (ht : P.underlying t = some .bool) : Dec P t (fun b : Bool => [.bool b]) (fun _ => True) := by
  intro H enc w fuel cs d ps hd
  obtain ⟨b, rfl, _⟩ := DataW.trod_bool ht hd
  exact ⟨b, rfl, one_get (.bool _), fun _ => trivial⟩

theorem DecFs.nil (off : Nat) : DecFs P off [] (fun _ : Unit => []) (fun _ => True) :=
  fun _ _ _ _ _ _ _ _ => ⟨(), by simp, fun _ => trivial⟩

theorem DecFs.cons {off : Nat} {t : TypeId} {L : List (TypeId × Nat)} {α β : Type} {ct : α → List D} {Gt : α → Prop} {cells : β → List D} {Good : β → Prop} (sz : Nat) (hsz : P.cellsOf t = sz) (h1 : Dec P t ct Gt) (hc : ∀ a, (ct a).length = sz)
    (h2 : DecFs P (off + sz) L cells Good) : DecFs P off ((t, off) :: L) (fun p : α × β => ct p.1 ++ cells p.2) (fun p => Gt p.1 ∧ Good p.2) := by
  intro H enc w n cs xs hl hx
  cases xs with
  | nil => simp at hl
  | cons x xs =>
    obtain ⟨d, ps⟩ := x
    have h0 := hx 0 t off rfl
    simp only [List.getElem?_cons_zero] at h0
    obtain ⟨a, g1, g2, g3⟩ := h1 H enc w n _ d ps h0
    obtain ⟨b, k1, k2⟩ := h2 H enc w n cs xs (by simpa using hl) (fun i t' o hi => by simpa using hx (i + 1) t' o (by simpa using hi))
    refine ⟨(a, b), fun j c hj => ?_, fun hw => ⟨g3 fun m hm => hw m ?_, k2 fun m hm => hw m ?_⟩⟩
    · simp only [List.getElem?_append, hc] at hj
      split at hj
      · obtain ⟨v, hv, hr⟩ := g2 j c hj
        refine ⟨v, ?_, hr⟩
        rw [List.getElem?_take] at hv
        split at hv
        · rwa [List.getElem?_drop] at hv
        · cases hv
      · obtain ⟨v, hv, hr⟩ := k1 _ c hj
        exact ⟨v, by rw [← hv]; congr 1; omega, hr⟩
    · simp only [List.map_cons, DataW.weightsEach]
      exact List.mem_append_left _ hm
    · simp only [List.map_cons, DataW.weightsEach]
      exact List.mem_append_right _ hm

theorem Dec.struct {t : TypeId} {L : List (TypeId × Nat)} {α : Type} {cells : α → List D} {Good : α → Prop} (sz : Nat) (hsz : P.cellsOf t = sz) (hf : fieldsOf P t = some L) (h : DecFs P 0 L cells Good) (hc : ∀ a, (cells a).length = sz) : Dec P t cells Good := by
  intro H enc w fuel cs d ps hd
  unfold fieldsOf at hf
  split at hf
  · rename_i fs ht
    simp only [Option.some.injEq] at hf
    obtain ⟨xs, n, _, hx, hlen, hxl, hall⟩ := DataW.trod_struct ht hd
    obtain ⟨a, h1, h2⟩ := h H enc w n cs xs (by rw [← hf]; simpa using hxl) (fun i t' o hi => by
      rw [← hf, List.getElem?_map, Option.map_eq_some_iff] at hi
      obtain ⟨f, hfi, he⟩ := hi
      cases he
      exact hall i f (by simpa using hfi))
    refine ⟨a, by rw [hlen, hsz, hc], fun j c hj => by simpa using h1 j c hj, fun hw => h2 fun m hm => hw m ?_⟩
    have : d = .agg (xs.map (·.1)) := congrArg Prod.fst hx
    rw [this]
    simp only [DataW.weights, ht]
    rw [← hf, List.map_map] at hm
    exact hm
  · cases hf

theorem weightsAll_mem {H : Type} {e : TypeId} {x : DataW H} {m : Nat} : ∀ {l : List (DataW H)}, x ∈ l → m ∈ x.weights P e → m ∈ DataW.weightsAll P e l
  | y :: l, hx, hm => by
    simp only [DataW.weightsAll, List.mem_append]
    rcases List.mem_cons.1 hx with rfl | hx
    · exact .inl hm
    · exact .inr (weightsAll_mem hx hm)

theorem flat_split {sz : Nat} (hpos : 0 < sz) : ∀ {es : List D} {j : Nat} {c : D}, (∀ e ∈ es, e.cells.length = sz) → (flat es)[j]? = some c → ∃ e, es[j / sz]? = some e ∧ e.cells[j % sz]? = some c
  | [], j, c, _, h => by simp [flat] at h
  | e :: es, j, c, hu, h => by
    have he := hu e List.mem_cons_self
    simp only [flat, List.flatMap_cons, List.getElem?_append, he] at h
    split at h
    · rename_i hlt
      exact ⟨e, by rw [Nat.div_eq_of_lt hlt]; rfl, by rw [Nat.mod_eq_of_lt hlt]; exact h⟩
    · rename_i hge
      obtain ⟨e', h1, h2⟩ := flat_split hpos (fun x hx => hu x (List.mem_cons_of_mem _ hx)) (show (flat es)[j - sz]? = some c from h)
      have hd : j / sz = (j - sz) / sz + 1 := by
        rw [← Nat.sub_add_cancel (Nat.le_of_not_lt hge), Nat.add_div_right _ hpos, Nat.add_sub_cancel]
      have hm : j % sz = (j - sz) % sz := by
        conv => lhs; rw [← Nat.sub_add_cancel (Nat.le_of_not_lt hge)]
        exact Nat.add_mod_right _ _
      exact ⟨e', by rw [hd]; simpa using h1, by rw [hm]; exact h2⟩

theorem Dec.slice {t e : TypeId} {α : Type} {cells : α → List D} {Good : α → Prop} (ht : P.underlying t = some (.slice e)) (sz bytes : Nat) (hsz : P.cellsOf e = sz) (hby : P.bytesOf e = bytes) (hpos : 0 < sz) (h : Dec P e cells Good) (enc : α → D)
    (hce : ∀ a, (enc a).cells = cells a) (hlen : ∀ a, (cells a).length = sz) : Dec P t (fun l : List α => [.sl sz (l.map enc)]) (fun l => l.length * bytes ≤ reachBytes ∧ ∀ a ∈ l, Good a) := by
  intro H en w fuel cs d ps hd
  rcases Go.Deep.open_slice ht hd with ⟨rfl, hx⟩ | ⟨a, len, cap, m, n, Dd, Pl, rfl, _, hlc, hcm, hm, hx, hel⟩
  · refine ⟨[], rfl, one_get (.sl0 sz none 0 fun _ => rfl), fun _ => ⟨by simp, by simp⟩⟩
  · simp only [if_true] at hm
    subst hm
    have hall : ∀ i : Fin len, ∃ b : α, ∃ cs' : List Value, w.cells? 0 (a.add (i.1 * sz)) sz = some cs' ∧ cs'.length = sz ∧
        (∀ (j : Nat) (c : D), (cells b)[j]? = some c → ∃ v, cs'[j]? = some v ∧ RelD w (fun _ => False) c v) ∧ ((∀ n ∈ (Dd i.1).weights P e, n ≤ reachBytes) → Good b) := by
      intro i
      obtain ⟨cs', h1, h2⟩ := hel i.1 (by omega)
      rw [hsz] at h1
      obtain ⟨b, g1, g2, g3⟩ := h H en w n cs' _ _ h2
      exact ⟨b, cs', h1, by rw [g1, hlen], g2, g3⟩
    let f : Fin len → α := fun i => Classical.choose (hall i)
    have hf : ∀ i : Fin len, ∃ cs' : List Value, w.cells? 0 (a.add (i.1 * sz)) sz = some cs' ∧ cs'.length = sz ∧
        (∀ (j : Nat) (c : D), (cells (f i))[j]? = some c → ∃ v, cs'[j]? = some v ∧ RelD w (fun _ => False) c v) ∧ ((∀ n ∈ (Dd i.1).weights P e, n ≤ reachBytes) → Good (f i)) := fun i => Classical.choose_spec (hall i)
    have hll : (List.ofFn f).length = len := by simp
    have hw : (∀ n ∈ d.weights P t, n ≤ reachBytes) → (List.ofFn f).length * bytes ≤ reachBytes ∧ ∀ b ∈ List.ofFn f, Good b := by
      intro hw
      have hd' : d = .slice ((List.range len).map Dd) ((List.range (m - len)).map fun j => Dd (len + j)) := congrArg Prod.fst hx
      rw [hd'] at hw
      simp only [DataW.weights, ht] at hw
      refine ⟨?_, fun b hb => ?_⟩
      · have := hw _ List.mem_cons_self
        simp only [List.length_map, List.length_range, hby] at this
        rw [hll]
        exact Nat.le_trans (Nat.mul_le_mul_right _ (by omega)) this
      · obtain ⟨i, hi⟩ := List.mem_ofFn.1 hb
        obtain ⟨cs', _, _, _, g⟩ := hf i
        rw [← hi]
        refine g fun n hn => hw n (List.mem_cons_of_mem _ (List.mem_append_left _ (weightsAll_mem (x := Dd i.1) (List.mem_map.2 ⟨i.1, by simp, rfl⟩) hn)))
    refine ⟨List.ofFn f, rfl, one_get ?_, hw⟩
    have huni : ∀ x ∈ (List.ofFn f).map enc, x.cells.length = sz := by
      intro x hx
      obtain ⟨b, _, rfl⟩ := List.mem_map.1 hx
      rw [hce, hlen]
    by_cases h0 : len = 0
    · subst h0
      have : (List.ofFn f).map enc = [] := by simp
      rw [this]
      exact .sl0 sz (some a) m (fun h => by cases h)
    · have hspot : a.spot = none := by
        obtain ⟨cs', h1, h2, _⟩ := hf ⟨0, by omega⟩
        obtain ⟨_, _, h3⟩ := World.cells?_some h1
        have := h3 0 hpos
        have hc0 : cs'[0]? = some cs'[0] := List.getElem?_eq_getElem (by omega)
        rw [hc0] at this
        simp only [Nat.zero_mul] at this
        simp only [Addr.add, if_true] at this
        unfold World.cell? at this
        split at this
        · split at this
          · cases this
          · rename_i hs; simpa using hs
        · cases this
      have haddr : ∀ k, a.add k = ⟨a.block, a.off + k, none⟩ := by
        intro k
        unfold Addr.add
        split
        · rename_i hk; subst hk; cases a; simp at hspot; subst hspot; rfl
        · rfl
      have key : ∀ (j : Nat) (c : D), (flat ((List.ofFn f).map enc))[j]? = some c → ∃ v, w.cell? ⟨a.block, a.off + j, none⟩ = some v ∧ RelD w (fun _ => False) c v := by
        intro j c hj
        obtain ⟨x, h1, h2⟩ := flat_split hpos huni hj
        rw [List.getElem?_map, Option.map_eq_some_iff] at h1
        obtain ⟨b, hb, rfl⟩ := h1
        obtain ⟨hlt, he⟩ := List.getElem?_eq_some_iff.1 hb
        rw [List.getElem_ofFn] at he
        rw [hll] at hlt
        obtain ⟨cs', g1, g2, g3, _⟩ := hf ⟨j / sz, hlt⟩
        rw [hce, ← he] at h2
        obtain ⟨v, hv, hr⟩ := g3 _ c h2
        refine ⟨v, ?_, hr⟩
        obtain ⟨_, _, g4⟩ := World.cells?_some g1
        have g5 := g4 (j % sz) (Nat.mod_lt _ hpos)
        rw [Go.Deep.add_add, haddr, hv, Nat.div_add_mod' j sz] at g5
        exact g5
      have hsa : a = ⟨a.block, a.off, none⟩ := by cases a; simp at hspot; subst hspot; rfl
      have hlm : ((List.ofFn f).map enc).length = len := by simp
      rw [hsa]
      have := RelD.sl (w := w) (A := fun _ => False) sz ((List.ofFn f).map enc) a.block a.off m (fun j => (w.cell? ⟨a.block, a.off + j, none⟩).getD undef) (by rw [hlm]; exact hlc) huni
        (fun j c hj => by obtain ⟨v, hv, _⟩ := key j c hj; exact ⟨fun h => h, by rw [hv]; rfl⟩) (fun j c hj => by obtain ⟨v, hv, hr⟩ := key j c hj; rw [hv]; exact hr)
      rwa [hlm] at this

/-! ### arguments -/
theorem arg_one {H : Type} {enc : TypeId × Value → H} {W : World} {base : Nat} {t : TypeId} {v : Value} {d : DataW H} {ps : List MemPlace} {α : Type} {cell : α → D} {Good : α → Prop} (h : Dec P t (fun a => [cell a]) Good) (hd : DataW.Trod enc P W 0 (fun _ => true) true t v d ps)
    (hok : Value.okWide P W .any base t v) (hno : ∀ arr, ¬ Value.okWide P W .any base t (.agg arr)) : ∃ a, RelD W (fun _ => False) (cell a) v ∧ ((∀ n ∈ d.weights P t, n ≤ reachBytes) → Good a) := by
  obtain ⟨fuel, hf⟩ := hd
  obtain ⟨a, h1, h2, h3⟩ := h H enc W fuel _ d ps hf
  obtain ⟨u, hu, hr⟩ := h2 0 (cell a) rfl
  have : v.cells = #[v] := by cases v <;> first | rfl | exact absurd hok (hno _)
  rw [this] at hu
  simp at hu
  subst hu
  exact ⟨a, hr, h3⟩

theorem arg_agg {H : Type} {enc : TypeId × Value → H} {W : World} {base : Nat} {t : TypeId} {v : Value} {d : DataW H} {ps : List MemPlace} {α : Type} {cells : α → List D} {Good : α → Prop} (h : Dec P t cells Good) (hd : DataW.Trod enc P W 0 (fun _ => true) true t v d ps)
    (hok : Value.okWide P W .any base t v) (hs : (fieldsOf P t).isSome = true) : ∃ a, RelD W (fun _ => False) (.agg (cells a)) v ∧ ((∀ n ∈ d.weights P t, n ≤ reachBytes) → Good a) := by
  obtain ⟨fuel, hf⟩ := hd
  obtain ⟨a, h1, h2, h3⟩ := h H enc W fuel _ d ps hf
  have : ∃ cs, v = .agg cs := by
    unfold fieldsOf at hs
    split at hs
    · rename_i fs ht
      simp only [Value.okWide, ht] at hok
      obtain ⟨cs, rfl, _⟩ := hok
      exact ⟨cs, rfl⟩
    · cases hs
  obtain ⟨cs, rfl⟩ := this
  simp only [Value.cells] at h1 h2
  refine ⟨a, .agg _ cs (by simpa using h1) (fun j => cs.getD j undef) (fun j c hj => ?_) (fun j c hj => ?_), h3⟩
  · obtain ⟨u, hu, _⟩ := h2 j c hj
    have : cs[j]? = some u := by simpa using hu
    simp [this]
  · obtain ⟨u, hu, hr⟩ := h2 j c hj
    have : cs[j]? = some u := by simpa using hu
    simpa [this] using hr

theorem no_agg_int {W : World} {base : Nat} {t : TypeId} {k : IntKind} (ht : P.underlying t = some (.int k)) : ∀ arr, ¬ Value.okWide P W .any base t (.agg arr) := by
  intro arr h; simp [Value.okWide, ht, Cell.okWide, Cell.ok] at h
end
end Go.DL

/-
  The bridge, second part: a call that returns true and changes nothing that was there answers a law's row. Generic in the program; no condition.
-/
set_option linter.unusedVariables false
set_option linter.unusedSimpArgs false
namespace Go.DL
open Go.RowKit Go.ChangeShapes Go.WideShapes

section
variable {P : Program}

theorem trodAll_stay {H : Type} {enc : TypeId × Value → H} {W W' : World} {sp : Nat → Bool} (hl : laidOutB P = true) : ∀ {ts : List TypeId} {vs : List Value} {ds : List (DataW H)} {ps : List MemPlace},
    DataW.TrodAll enc P W 0 (fun _ => true) true ts vs ds ps → (∀ t ∈ ts, P.readableRec t = true ∧ t < P.types.size) → (∀ p ∈ ps, W.sameAt W' p) → (∀ p ∈ ps, sp p.block = true) → DataW.TrodAll enc P W' 0 sp true ts vs ds ps
  | [], _, _, _, h, _, _, _ => by
    obtain ⟨rfl, rfl, rfl⟩ := trodAll_nil h
    exact trodAll_mk0
  | t :: ts, _, _, _, h, hr, hs, hp => by
    obtain ⟨v, vs, d, ds, a, b, rfl, rfl, rfl, h1, h2⟩ := trodAll_cons h
    exact ⟨a, b, WideElems.Trod_stays hl (hr t List.mem_cons_self).1 (hr t List.mem_cons_self).2 h1 (fun x hx => hs x (List.mem_append_left _ hx)) (fun x hx => hp x (List.mem_append_left _ hx)),
      trodAll_stay hl h2 (fun t ht => hr t (List.mem_cons_of_mem _ ht)) (fun x hx => hs x (List.mem_append_right _ hx)) (fun x hx => hp x (List.mem_append_right _ hx)), rfl⟩

theorem law_call {H : Type} {enc : TypeId × Value → H} {f : FuncId} {fn : Func} {s : ChangeSpec} {apart fresh handsOn : Bool} {W : World} {args : Array Value} {ds gs : List (DataW H)} {before : List MemPlace}
    (hW : DataW.Whole enc P fn.params.toList s.vars apart W args.toList ds gs before) (hl : laidOutB P = true) (hrec : ∀ t ∈ fn.params.toList, P.readableRec t = true ∧ t < P.types.size) (tb : TypeId) (hrt : fn.resultTypes = #[tb]) (htb : P.underlying tb = some .bool)
    (hv : s.vars = []) (hspec : s.fn H ds = { results := [.lit (.bool true)], args := ds }) (Ds : List D) (hlen : args.size = Ds.length) (hrel : ∀ (j : Nat) (c : D), Ds[j]? = some c → ∃ u, args[j]? = some u ∧ RelD W (fun _ => False) c u) (hret : Ret P f Ds (.bool true)) :
    Calls P f args W fun e W' => ∃ v, e = .returned v ∧ s.post enc P fn apart fresh handsOn false W args v W' := by
  refine (hret.2 W (fun _ => False) args (fun _ h => h.elim) hlen hrel).mono ?_
  rintro e W' ⟨v, rfl, hb, hr⟩
  have hvt : v = .bool true := relD_bool hr
  subst hvt
  have hlt := hW.lt
  have hW' := hW
  obtain ⟨p, q, hA, hV, rfl, hfz, hnd⟩ := hW
  rw [hv] at hV
  obtain ⟨rfl, rfl⟩ := trodVars_none hV
  rw [List.append_nil] at hW' hlt
  have hold : ∀ x ∈ p, (fun b => decide (b < W.heap.size)) x.block = true := fun x hx => by simpa using hlt x hx
  refine ⟨.bool true, rfl, ds, [], p, [], p, [], hW', ?_, ?_, ?_, ?_, fun h => by cases h⟩
  · rw [List.append_nil, hspec, hrt]
    exact trodAll_mk1 (shut_bool htb true)
  · rw [List.append_nil, hspec]
    exact trodAll_stay hl hA hrec (fun x hx => hb.same (hlt x hx)) hold
  · rw [List.append_nil, hspec, hv]
    exact rfl
  · exact hb.frame _
end
end Go.DL

/-
  The data-level framework, second series, part a: ranges over functions: a round's code, an iterator's contract, the statement. Generic in the program; no condition.
-/
set_option linter.unusedVariables false
set_option linter.unusedSimpArgs false
namespace Go.DL
open Go.RowKit

/-- The fence of a round of the loop with record r. -/
abbrev WR (r : Nat) : Fence := Fence.wide.inRound r

def noDefer (l : List Oper) : Bool := l.all fun o => match o.op with | .defer _ => false | _ => true

section
variable {P : Program} {base : Nat} {Q : DX → DS → Prop} {s : DS}

theorem no_out {E : Env} : ¬ LetsOut (Lift E Q) := by
  rintro ⟨a, w, E', _, x, s, M, hx, _⟩
  cases x <;> exact hx

theorem op_in {r n : Nat} {o : Oper} (hd : ∀ c, o.op ≠ .defer c) {R : Exit → Act → World → Prop} {K K' : Act → World → Prop} {a : Act} {w : World} (hK : ∀ a w, K a w → K' a w)
    (h : o.wp P a w K R) : o.wpIn (WR r) n P a w K' R := by
  refine ⟨fun _ _ => trivial, ?_⟩
  rw [Oper.semAt_eq _ _ _ hd]
  unfold Oper.wp at h
  cases hr : (execOp a.eval o).run P w with
  | ok v w' =>
    rw [hr] at h
    cases v with
    | value v => exact hK _ _ h
    | skip => exact hK _ _ h
    | defer d => exact hK _ _ h
    | enter f args =>
      refine ⟨(fun e => by cases e), CallsIn.inRound r (callsIn_wide.2 (Calls.mono h ?_))⟩
      intro e w2 h2
      cases e with
      | returned v => exact hK _ _ h2
      | panicked ch => exact h2
      | outgrown => exact h2
    | row row args =>
      refine ⟨(fun e => by cases e), fun c cs _ => ?_⟩
      obtain ⟨v, w2, h1, h2⟩ := h c cs
      exact ⟨v, w2, hK _ _ h1, stepsIn_wide.2 h2⟩
    | _ => exact h.elim
  | halt st w' =>
    rw [hr] at h
    cases st <;> first | exact h | exact h.elim

theorem list_in {r n : Nat} {ops : Array Oper} {R : Exit → Act → World → Prop} (hno : ¬ LetsOut R) : ∀ (l : List Oper) (a : Act) (w : World), noDefer l = true → wpList P ops R l a w → wpListIn (WR r) n P ops R l a w
  | [], _, _, _, h => h
  | o :: l, a, w, hd, h => by
    simp only [noDefer, List.all_cons, Bool.and_eq_true] at hd
    have ho : ∀ c, o.op ≠ .defer c := fun c e => by rw [e] at hd; simp at hd
    unfold wpList at h
    unfold wpListIn
    split at h
    · rename_i hw
      rw [if_pos hw]
      rcases h with h | h
      · exact op_in ho (fun a' w' h' => list_in hno l a' w' hd.2 h') h
      · exact absurd h.2 hno
    · rename_i hw
      rw [if_neg hw]
      exact ⟨fun _ _ => trivial, list_in hno l _ w hd.2 h⟩

/-- The triple of code that runs in a round. -/
def TI (P : Program) (r base : Nat) (c : Code) (Q : DX → DS → Prop) (s : DS) : Prop :=
  ∀ (E : Env) (M : BMap) (w : World) (a : Act), E.base = base → St E M w a s → c.wpIn (WR r) 0 P (Lift E Q) a w

theorem TI_region {r id : Nat} {l : List Oper} (hd : noDefer l = true) (h : TL P base l.toArray l Q s) : TI P r base (.region id l.toArray false) Q s :=
  fun E M w a hb hst => wpIn_region_lit (list_in no_out l a w hd (h E M w a hb hst))

theorem TI_seq {r : Nat} {x y : Code} (h : TI P r base x (DX.andThen (TI P r base y Q) Q) s) : TI P r base (.seq x y) Q s := by
  intro E M w a hb hs
  refine wpIn_seq (wpIn_mono (h E M w a hb hs) ?_)
  rintro e a' w' ⟨E1, hext, dx, s', M', hx, hq, hst⟩
  cases dx with
  | normal =>
    cases e <;> simp only [XRel] at hx
    exact wpIn_mono (hq E1 M' w' a' (hext.base.trans hb) hst) fun _ _ _ => Lift.ext hext
  | exit id =>
    cases e <;> simp only [XRel] at hx
    exact ⟨E1, hext, .exit id, s', M', hx, hq, hst⟩
  | ret =>
    cases e <;> simp only [XRel] at hx
    exact ⟨E1, hext, .ret, s', M', trivial, hq, hst⟩
  | panic d =>
    cases e <;> simp only [XRel] at hx
    exact ⟨E1, hext, .panic d, s', M', hx, hq, hst⟩

/-- The environment of code that is entered with all boxes of a state. -/
def Env.within (E : Env) (M : BMap) (w : World) (bx : List (Nat × Box)) (base' : Nat) (ms : List (Deferred × Nat)) : Env :=
  ⟨w, E.A0, base', M, fun k => ∃ p ∈ bx, boxBlk M p = some k, fun i => i ∈ bx.map (·.1), ms⟩

theorem Boxes.within {E : Env} {M : BMap} {w : World} {bx : List (Nat × Box)} (h : Boxes E M w bx) (base' : Nat) (ms : List (Deferred × Nat)) : Boxes (E.within M w bx base' ms) M w bx where
  ok := h.ok
  ids := h.ids
  blks := h.blks
  new := fun p hp k hk => ⟨.inl ⟨p, hp, hk⟩, (h.new p hp k hk).2⟩
  foreign := fun b hb => by
    have h1 := h.foreign b hb
    refine ⟨Nat.lt_of_lt_of_le h1.1 h.frame.size, fun ⟨p, hp, hk⟩ => ?_⟩
    rcases (h.new p hp b hk).1 with h2 | h2
    · exact h1.2 h2
    · have := h1.1; omega
  frame := Fr.refl _ _
  old := fun p hp _ => ⟨List.mem_map.2 ⟨p, hp, rfl⟩, rfl, rfl, rfl⟩

/-- What the code that was entered so makes of the caller's state. -/
theorem St.call {E : Env} {M M' : BMap} {w w' : World} {a : Act} {s : DS} {bx' : List (Nat × Box)} {base' : Nat} {ms : List (Deferred × Nat)} (hst : St E M w a s) (hbase : E.base ≤ base') (hb : Boxes (E.within M w s.bx base' ms) M' w' bx') :
    St E M' w' a (s.back bx' base') := by
  have hO : ∀ k, (E.within M w s.bx base' ms).O k → (E.O k ∨ E.w0.heap.size ≤ k) ∧ k < w.heap.size := fun k ⟨p, hp, hk⟩ => hst.boxes.new p hp k hk
  have hFr : Fr E.O E.w0 w' := by
    have h1 := hb.frame
    have h2 := hst.boxes.frame
    refine ⟨h1.os.trans h2.os, h1.tape.trans h2.tape, h1.output.trans h2.output, Nat.le_trans h2.size h1.size, fun k hk hok => ?_⟩
    refine (h1.block k (Nat.lt_of_lt_of_le hk h2.size) fun hob => ?_).trans (h2.block k hk hok)
    rcases (hO k hob).1 with h3 | h3
    · exact hok h3
    · omega
  have hBox : Boxes E M' w' bx' := {
    ok := hb.ok
    ids := hb.ids
    blks := hb.blks
    new := fun p hp k hk => by
      obtain ⟨h1, h2⟩ := hb.new p hp k hk
      refine ⟨?_, h2⟩
      rcases h1 with h1 | h1
      · exact (hO k h1).1
      · exact .inr (Nat.le_trans hst.boxes.frame.size h1)
    foreign := hst.boxes.foreign
    frame := hFr
    old := fun p hp hlt => by
      obtain ⟨h1, h2, h3, h4⟩ := hb.old p hp (Nat.lt_of_lt_of_le hlt hbase)
      obtain ⟨p0, hp0, he⟩ := List.mem_map.1 h1
      have := hst.boxes.old p0 hp0 (by rw [he]; exact hlt)
      rw [he] at this
      obtain ⟨g1, g2, g3, g4⟩ := this
      exact ⟨g1, h2.trans g2, h3.trans g3, h4.trans g4⟩ }
  have hKeeps : Keeps w (Av E.A0 M s.bx) w' (Av E.A0 M' bx') := by
    intro b off u h1 h2
    have hlt := World.block_lt_of_cell? w ⟨b, off, none⟩ h2
    have hnO : ¬ (E.within M w s.bx base' ms).O b := fun hob => h1 (.inr hob)
    refine ⟨fun h3 => ?_, ?_⟩
    · rcases h3 with h3 | ⟨p, hp, hk⟩
      · exact h1 (.inl h3)
      · rcases (hb.new p hp b hk).1 with h4 | h4
        · exact hnO h4
        · exact absurd hlt (Nat.not_lt.2 h4)
    · rw [World.cell?_of_block (hb.frame.block b hlt hnO)]; exact h2
  have hlive : ∀ i, liveIn bx' base' i = true → M'.blk i = M.blk i ∧ M'.rv i = M.rv i ∧ M'.sz i = M.sz i := by
    intro i hi
    simp only [liveIn, Bool.and_eq_true, List.any_eq_true, beq_iff_eq] at hi
    obtain ⟨h1, p, hp, he⟩ := hi
    have hlt : i < base' := by simpa [Nat.blt_eq] using h1
    obtain ⟨_, h2, h3, h4⟩ := hb.old p hp (by rw [he]; exact hlt)
    rw [he] at h2 h3 h4
    exact ⟨h2, h3, h4⟩
  refine ⟨hst.defers, by simp [DS.back, hst.size], fun t l hl => ?_, hBox⟩
  simp only [DS.back, List.getElem?_map, Option.map_eq_some_iff] at hl
  obtain ⟨l', hl', rfl⟩ := hl
  exact LV.keep_rel hlive ((hst.slots t l' hl').mono hKeeps)

theorem box_cells {E : Env} {M : BMap} {w : World} {bx : List (Nat × Box)} (h : Boxes E M w bx) {p : Nat × Box} (hp : p ∈ bx) {r : Nat} (hk : boxBlk M p = some r) {o : Obj} (hr : w.heap[r]? = some o) (hc : boxy o = false) : False := by
  obtain ⟨i, b⟩ := p
  cases b with
  | var cs =>
    obtain ⟨arr, T, h1, _⟩ := h.ok i _ hp
    have hk' : M.blk i = r := by simpa [boxBlk] using hk
    rw [hk', hr] at h1
    cases h1
    simp [boxy] at hc
  | row e sz es =>
    obtain ⟨xs, h1, _⟩ := h.ok i _ hp
    rcases h1.2 with ⟨hv, _⟩ | ⟨g, cap, cur, hv, _, hg, _⟩
    · simp [boxBlk, hv, Value.ownBlock] at hk
    · have hk' : g = r := by simpa [boxBlk, hv, Value.ownBlock] using hk
      rw [hk', hr] at hg
      cases hg
      simp [boxy] at hc
  | map Q k e m =>
    obtain ⟨_, n, es, clock, h2, _⟩ := h.ok i _ hp
    have hk' : M.blk i = r := by simpa [boxBlk] using hk
    rw [hk', hr] at h2
    cases h2
    simp [boxy] at hc

/-- What a function that is ranged over does, called with yield: the elements come one after the other. -/
def Iter (P : Program) (gf : FuncId) (caps : List D) {α : Type} (vv : α → Value) (xs : List α) : Prop :=
  (∀ args w, (callFunc gf args).run P w = .ok (.enter gf args) w) ∧
  ∀ (w : World) (A : Nat → Prop) (lb : Array Value), lb.size = caps.length → (∀ (j : Nat) (c : D), caps[j]? = some c → ∃ u, lb[j]? = some u ∧ RelD w A c u) →
  ∀ (l : Nat) (J : List α → World → Prop), (∀ pre W, J pre W → ∀ b off u, ¬ A b → w.cell? ⟨b, off, none⟩ = some u → W.cell? ⟨b, off, none⟩ = some u) →
    (∀ pre W W', J pre W → Below W.heap.size W W' → J pre W') →
    (∀ pre x W1, J pre W1 → pre ++ [x] <+: xs → YieldAt Fence.wide 0 P l #[vv x] W1 fun e W' => e = .returned (.bool true) ∧ J (pre ++ [x]) W') →
    ∀ W, J [] W → CallsIn Fence.wide 0 P gf (#[.func (.yield l) #[] #[]] ++ lb) W fun e W' => (∃ v, e = .returned v) ∧ J xs W'

/-- THE STATEMENT 'for x := range f { body }', the body going on to its end in every round. -/
theorem T_range {g p : Tmp} {assign body : Code} {α : Type} (base' gf : Nat) (caps : List D) (vv : α → Value) (lx : α → LV) (xs : List α) (st : List α → DS) (s : DS)
    (hvv : ∀ x w A M, LV.rel w A M (lx x) (vv x)) (hb' : base ≤ base') (h0 : s = st []) (hslot : ∀ pre, pre <+: xs → (st pre).sl[g]? = some (.one (.dat (.fn gf caps))))
    (hit : Iter P gf caps vv xs)
    (hround : ∀ (r : Nat) (pre : List α) (x : α), pre ++ [x] <+: xs → TI P r base' assign (fun dx s1 => dx = .normal ∧
      TI P r base' body (fun dx s2 => dx = .normal ∧ (((st pre).back s1.bx base').back s2.bx base').Le (st (pre ++ [x]))) s1) ((st pre).put (some p) (lx x)))
    (hQ : Q .normal (st xs)) : T P base (.rangeFunc (.tmp g) #[p] assign body) Q s := by
  subst h0
  intro E M w a hE hst
  refine (wpIn_wide (n := 0)).1 ?_
  have hgr := hst.slots g _ (hslot [] List.nil_prefix)
  have hgv : a.eval (.tmp g) = a.tmps.getD g undef := rfl
  simp only [LV.rel, C.rel] at hgr
  generalize hv : a.tmps.getD g undef = v at hgr
  cases hgr with
  | fn _ _ lb hsz vs hvs hrel =>
  have hcap : ∀ (j : Nat) (c : D), caps[j]? = some c → ∃ u, lb[j]? = some u ∧ RelD w (Av E.A0 M (st []).bx) c u := fun j c hj => ⟨vs j, hvs j c hj, hrel j c hj⟩
  have hE1 : EnvExt E (E.within M w (st []).bx base E.marks) := by
    refine ⟨hE.symm, fun _ h => h, fun k hk => ?_, hst.boxes.frame, fun i hi hl => ?_, [], rfl, by simp, by simp⟩
    · obtain ⟨q, hq, hk⟩ := hk
      exact (hst.boxes.new q hq k hk).1
    · obtain ⟨q, hq, rfl⟩ := List.mem_map.1 hl
      exact hst.boxes.old q hq hi
  have hst1 : St (E.within M w (st []).bx base E.marks) M w a (st []) := ⟨hst.defers, hst.size, hst.slots, hst.boxes.within base E.marks⟩
  generalize hE1d : E.within M w (st []).bx base E.marks = E1 at hE1 hst1
  have hE1w : E1.w0 = w := by rw [← hE1d]; rfl
  have hE1b : E1.base = base := by rw [← hE1d]; rfl
  have hE1O : ∀ k, E1.O k → Av E.A0 M (st []).bx k := fun k hk => by rw [← hE1d] at hk; exact .inr hk
  refine wpIn_rangeFunc ?_
  intro fn _
  obtain ⟨rec, hrec⟩ : ∃ rec : LoopState → Option Code → Loop, rec = fun st pe => { state := st, pending := pe, fn, tmps := a.tmps, params := #[p], assign, body, defers := w.heap.size } := ⟨_, rfl⟩
  obtain ⟨W1, hW1⟩ : ∃ W1, (w.alloc (.deferred (some []))).alloc (.loop (rec .ready none)) = W1 := ⟨_, rfl⟩
  have hL1 : W1.heap[w.heap.size + 1]? = some (.loop (rec .ready none)) := by
    rw [← hW1]; have := World.alloc_heap_new (w.alloc (.deferred (some []))) (.loop (rec .ready none)); rwa [World.size_alloc] at this
  have hK1 : W1.heap[w.heap.size]? = some (.deferred (some [])) := by
    rw [← hW1]; exact (Below.heap_alloc _ _ _ (by simp)).trans (World.alloc_heap_new w _)
  have hb1 : Below w.heap.size w W1 := by
    rw [← hW1]; exact ((Below.refl _ w).alloc (Nat.le_refl _) _).alloc (by simp) _
  refine ⟨w.heap.size + 1, [{ target := .collected w.heap.size, args := #[] }], W1, { target := .fn (.func gf) lb, args := #[.func (.yield (w.heap.size + 1)) #[] #[]] }, W1, gf,
    #[.func (.yield (w.heap.size + 1)) #[] #[]] ++ lb, W1, ?_, ?_, ?_, ?_, fun e => (by cases e), ?_⟩
  · rw [← hW1, hrec]; exact run_enterLoop_outer _ _ _ _ _
  · simp only [resolve, rangeCall, hgv, hv]
    simp [go_sem]
  · intro f' _; trivial
  · simp [invoke, go_sem, hit.1]
  · refine (hit.2 w (Av E.A0 M (st []).bx) lb hsz hcap (w.heap.size + 1)
      (fun pre W => (pre <+: xs → ∃ M2, St E1 M2 W a (st pre)) ∧ (∀ k, k < w.heap.size → ¬ E1.O k → W.heap[k]? = w.heap[k]?) ∧ W.heap[w.heap.size + 1]? = some (.loop (rec .ready none)) ∧ W.heap[w.heap.size]? = some (.deferred (some [])))
      ?_ ?_ ?_ W1 ⟨fun _ => ⟨M, hst1.below hb1⟩, fun k hk _ => hb1.block k hk, hL1, hK1⟩).mono ?_
    · rintro pre W ⟨_, hk, _, _⟩ b off u h1 h2
      have hlt := World.block_lt_of_cell? w ⟨b, off, none⟩ h2
      rw [World.cell?_of_block (hk b hlt fun ho => h1 (hE1O b ho))]; exact h2
    · rintro pre W W' ⟨h1, h2, h3, h4⟩ hbel
      have hl3 := (Array.getElem?_eq_some_iff.1 h3).1
      have hl4 := (Array.getElem?_eq_some_iff.1 h4).1
      exact ⟨fun hp => let ⟨M2, h⟩ := h1 hp; ⟨M2, h.below hbel⟩, fun k hk ho => by rw [hbel.block k (by omega)]; exact h2 k hk ho, by rw [hbel.block _ hl3]; exact h3, by rw [hbel.block _ hl4]; exact h4⟩
    · rintro pre x W ⟨hi, hkeep, hl, hk⟩ hpx
      have hppre : pre <+: xs := (List.prefix_append pre [x]).trans hpx
      obtain ⟨M2, hs2⟩ := hi hppre
      have hll : w.heap.size + 1 < W.heap.size := (Array.getElem?_eq_some_iff.1 hl).1
      have hy := run_yield (P := P) (args := #[vv x]) hl (by rw [hrec]; rfl)
      rw [hrec] at hy
      refine ⟨fn, _, assign, body, hy, roundIn_of_wpIn trivial ?_⟩
      have htm : ((#[p] : Array Tmp).zip #[vv x]).foldl (fun tmps (t, a) => tmps.setIfInBounds t a) a.tmps = (a.put (some p) (vv x)).tmps := by simp [Act.put]
      simp only [htm]
      -- the round's own state
      have hbW := hs2.boxes.within base' []
      have hsb : St (E1.within M2 W (st pre).bx base' []) M2 W { tmps := (a.put (some p) (vv x)).tmps, defers := [] } ((st pre).put (some p) (lx x)) := by
        have h1 := hs2.put (some p) (hvv x W (Av E1.A0 M2 (st pre).bx) M2)
        exact ⟨rfl, h1.size, h1.slots, hbW⟩
      have hA := hround (w.heap.size + 1) pre x hpx (E1.within M2 W (st pre).bx base' []) M2 W _ rfl hsb
      refine wpIn_mono hA ?_
      rintro e a1 Wa ⟨Ea, hexta, dx, s1, M3, hx, ⟨rfl, hbody⟩, hst3⟩
      cases e <;> simp only [XRel] at hx
      have hs3 := St.back hexta hbW.foreign hst3
      have hbox3 : Boxes (E1.within M2 W (st pre).bx base' []) M3 Wa s1.bx := hs3.boxes
      have notbox : ∀ (Mx : BMap) (Wx : World) (Ex : Env) (bx : List (Nat × Box)), Boxes Ex Mx Wx bx → ∀ k o, Wx.heap[k]? = some o → boxy o = false → ¬ ∃ q ∈ bx, boxBlk Mx q = some k := by
        rintro Mx Wx Ex bx hB k o ho hc ⟨q, hq, hk⟩
        exact box_cells hB hq hk ho hc
      have hlA : Wa.heap[w.heap.size + 1]? = some (.loop (rec .ready none)) := by
        rw [hbox3.frame.block _ hll (notbox _ _ _ _ hs2.boxes _ _ hl rfl)]; exact hl
      have hkA : Wa.heap[w.heap.size]? = some (.deferred (some [])) := by
        rw [hbox3.frame.block _ (by show w.heap.size < W.heap.size; omega) (notbox _ _ _ _ hs2.boxes _ _ hk rfl)]; exact hk
      have hllA : w.heap.size + 1 < Wa.heap.size := (Array.getElem?_eq_some_iff.1 hlA).1
      refine ⟨_, run_beginRound hlA (by rw [hrec]), ?_⟩
      -- the caller's state between the two pieces
      have hc1 := St.call (s := st pre) hs2 (by rw [hE1b]; exact hb') hbox3
      have hc2 : St E1 M3 (Wa.putObj (w.heap.size + 1) (.loop { rec .ready none with state := .busy })) a ((st pre).back s1.bx base') := hc1.putNew _ hlA rfl (by rw [hE1w]; omega)
      have hl2 : (Wa.putObj (w.heap.size + 1) (.loop { rec .ready none with state := .busy })).heap[w.heap.size + 1]? = some (.loop { rec .ready none with state := .busy }) := World.putObj_heap_same hllA
      have hk2 : (Wa.putObj (w.heap.size + 1) (.loop { rec .ready none with state := .busy })).heap[w.heap.size]? = some (.deferred (some [])) := (World.putObj_heap_other (by omega)).trans hkA
      have hkeep2 : ∀ k, k < w.heap.size → ¬ E1.O k → (Wa.putObj (w.heap.size + 1) (.loop { rec .ready none with state := .busy })).heap[k]? = w.heap[k]? := fun k hk' ho => by
        have := hc2.boxes.frame.block k (by rw [hE1w]; exact hk') ho
        rw [hE1w] at this; exact this
      generalize hWb : Wa.putObj (w.heap.size + 1) (.loop { rec .ready none with state := .busy }) = Wb at hc2 hl2 hk2 hkeep2
      have hllB : w.heap.size + 1 < Wb.heap.size := (Array.getElem?_eq_some_iff.1 hl2).1
      have hbC : Boxes (E1.within M3 Wb s1.bx base' Ea.marks) M3 Wb s1.bx := by
        have := hc2.boxes.within base' Ea.marks
        exact this
      have hA0 : ∀ b, E1.A0 b → Ea.A0 b := fun b hb => hexta.a0 b hb
      have hsc : St (E1.within M3 Wb s1.bx base' Ea.marks) M3 Wb a1 s1 := by
        have h1 : St { E1.within M2 W (st pre).bx base' [] with marks := Ea.marks } M3 Wa a1 s1 := ⟨hst3.defers, hs3.size, hs3.slots, ⟨hs3.boxes.ok, hs3.boxes.ids, hs3.boxes.blks, hs3.boxes.new, hs3.boxes.foreign, hs3.boxes.frame, hs3.boxes.old⟩⟩
        refine ⟨h1.defers, h1.size, fun t lv hlv => ?_, hbC⟩
        have := h1.slots t lv hlv
        rw [← hWb]
        refine LV.rel.mono ?_ this
        intro b off u g1 g2
        refine ⟨g1, ?_⟩
        have hne : b ≠ w.heap.size + 1 := fun e => by
          subst e
          simp [World.cell?, hlA] at g2
        rw [World.cell?_of_block (World.putObj_heap_other hne)]; exact g2
      have hB := hbody (E1.within M3 Wb s1.bx base' Ea.marks) M3 Wb a1 rfl hsc
      refine wpIn_mono hB ?_
      rintro e a2 Wc ⟨Ed, hextd, dx, s2, M4, hx2, ⟨rfl, hle⟩, hst4⟩
      cases e <;> simp only [XRel] at hx2
      have hs4 := St.back hextd hbC.foreign hst4
      have hlC : Wc.heap[w.heap.size + 1]? = some (.loop { rec .ready none with state := .busy }) := by
        rw [hs4.boxes.frame.block _ hllB (notbox _ _ _ _ hc2.boxes _ _ hl2 rfl)]; exact hl2
      have hkC : Wc.heap[w.heap.size]? = some (.deferred (some [])) := by
        rw [hs4.boxes.frame.block _ (by show w.heap.size < Wb.heap.size; omega) (notbox _ _ _ _ hc2.boxes _ _ hk2 rfl)]; exact hk2
      have hc4 := St.call (s := (st pre).back s1.bx base') hc2 (by rw [hE1b]; exact hb') hs4.boxes
      obtain ⟨M5, hc5⟩ := hle E1 M4 Wc a hc4
      have hend := run_endRound (P := P) none hlC
      have hllC : w.heap.size + 1 < Wc.heap.size := (Array.getElem?_eq_some_iff.1 hlC).1
      refine ⟨_, _, hend, rfl, fun _ => ⟨M5, hc5.putNew _ hlC rfl (by rw [hE1w]; omega)⟩, fun k hk' ho => ?_, ?_, ?_⟩
      · rw [World.putObj_heap_other (by omega)]
        have := hc5.boxes.frame.block k (by rw [hE1w]; exact hk') ho
        rw [hE1w] at this; exact this
      · rw [World.putObj_heap_same hllC, hrec]; rfl
      · rw [World.putObj_heap_other (by omega)]; exact hkC
    · rintro e W2 ⟨⟨u, rfl⟩, hi, hkeep, hl, hk⟩
      obtain ⟨Mz, hz⟩ := hi (List.prefix_refl xs)
      have hll : w.heap.size + 1 < W2.heap.size := (Array.getElem?_eq_some_iff.1 hl).1
      refine ⟨none, _, by have := run_endLoop (P := P) hl (by rw [hrec]; simp); rw [hrec] at this; exact this, ?_⟩
      have hz2 := hz.putNew (.loop { rec .ready none with state := .exhausted }) hl rfl (by rw [hE1w]; omega)
      have hkz : (W2.putObj (w.heap.size + 1) (.loop { rec .ready none with state := .exhausted })).heap[w.heap.size]? = some (.deferred (some [])) := (World.putObj_heap_other (by omega)).trans hk
      rw [hrec] at hz2 hkz
      refine ⟨E1.within Mz _ (st xs).bx base (({ target := .collected w.heap.size, args := #[] }, w.heap.size) :: E.marks), ?_, .normal, st xs, Mz, trivial, hQ, ⟨?_, hz2.size, hz2.slots, hz2.boxes.within base _⟩⟩
      · refine hE1.trans ⟨hE1b.symm, fun _ h => h, fun k hk' => ?_, hz2.boxes.frame, fun i hi' hl' => ?_, [({ target := .collected w.heap.size, args := #[] }, w.heap.size)], ?_, by simp, fun q hq => ?_⟩
        · obtain ⟨q, hq, hk'⟩ := hk'
          exact (hz2.boxes.new q hq k hk').1
        · obtain ⟨q, hq, rfl⟩ := List.mem_map.1 hl'
          exact hz2.boxes.old q hq hi'
        · rw [← hE1d]; rfl
        · rw [List.mem_singleton] at hq
          subst hq
          exact ⟨rfl, (Array.getElem?_eq_some_iff.1 hkz).1, fun ⟨q, hq, hk'⟩ => box_cells hz2.boxes hq hk' hkz rfl, hkz, by rw [hE1w]; exact Nat.le_refl _⟩
      · have hd := hst.defers
        show [_] ++ a.defers = _
        rw [hd]; rfl
end
end Go.DL

/-
  The data-level framework, second series, part b: local arrays taken as rows; a sort of a row of the call's own. Generic in the program; no condition.
-/
set_option linter.unusedVariables false
set_option linter.unusedSimpArgs false
namespace Go.DL
open Go.RowKit

section
variable {P : Program} {w : World} {M : BMap} {base : Nat} {Q : DX → DS → Prop} {s : DS}

theorem TL_estep {ops : Array Oper} {o : Oper} {rest : List Oper} (hg : o.guard = none) (s' : DS) (hst : ∀ E M w a, E.base = base → St E M w a s → EStep P o E w a s') (h : TL P base ops rest Q s') : TL P base ops (o :: rest) Q s := by
  intro E M w a hE hs
  refine wpList_plain hg fun K hK => ?_
  exact hst E M w a hE hs K _ fun v w' M' hst' => hK _ _ (h E M' w' _ hE hst')

/-- The cells of a type's zero value. -/
def zeroCs (P : Program) (t : TypeId) : Option (List C) :=
  match P.info? t with
  | some i => match i.zero with
    | some z => some (z.cells.toList.map ofConstCell)
    | none => none
  | none => none

/-- 'var x [n]T', taken as a row of the call's own. -/
theorem TL_arr {ops : Array Oper} {o : Oper} {rest : List Oper} (t : TypeId) (d id sz : Nat) (es : List D) (hop : o.op = .alloc t) (hd : o.dst = some d) (hg : o.guard = none)
    (hz : zeroCs P t = some ((flat es).map .dat)) (hu : (es.all fun e => e.cells.length == sz) = true) (hmax : Nat.ble es.length maxLen = true) (hb : Nat.ble base id = true)
    (h : TL P base ops rest Q (((s.drop id).push id (.row t sz es)).put (some d) (.one (.rref id 0 0)))) : TL P base ops (o :: rest) Q s := by
  obtain ⟨i, z, hi, hzv, hes⟩ : ∃ i z, P.info? t = some i ∧ i.zero = some z ∧ z.cells.toList.map ofConstCell = (flat es).map .dat := by
    unfold zeroCs at hz
    split at hz
    · rename_i i hi
      split at hz
      · rename_i z hzv
        exact ⟨i, z, hi, hzv, by simpa using hz⟩
      · cases hz
    · cases hz
  have hu' : ∀ e ∈ es, e.cells.length = sz := fun e he => by have := List.all_eq_true.1 hu e he; simpa using this
  have hsz : z.cells.size = es.length * sz := by
    have := congrArg List.length hes
    simp only [List.length_map, Array.length_toList] at this
    rw [this, flat_length es hu']
  refine TL_estep hg _ (fun E M w a hE hst => ?_) h
  have hr : (execOp a.eval o).run P w = .ok (.value (.pointer (some ⟨w.heap.size, 0, none⟩))) (w.alloc (.cells z.cells t)) := by
    simp [execOp, hop, Instr.alloc, zeroValue, typeInfo, hi, hzv, newVar, newRow]
  refine EStep.of_run (M' := M.upd id w.heap.size (.slice (some ⟨w.heap.size, 0, none⟩) es.length es.length) sz) hr ?_
  rw [hd]
  refine St.put ?_ (some d) (by simp [LV.rel, C.rel, BMap.upd])
  refine row_box hst (by rw [hE]; exact Nat.le_of_ble_eq_true hb) hsz rfl (Nat.le_refl _) (Nat.le_of_ble_eq_true hmax) hu' fun A' _ j c hj => ?_
  have h1 : (z.cells.toList.map ofConstCell)[j]? = some (.dat c) := by rw [hes, List.getElem?_map, hj]; rfl
  simp only [List.getElem?_map, Option.map_eq_some_iff] at h1
  obtain ⟨u, hu', hc⟩ := h1
  refine ⟨u, by simpa using hu', ?_⟩
  have := ofConstCell_rel (w := w.alloc (.cells z.cells t)) (A := A') (M := ⟨fun _ => 0, fun _ => undef, fun _ => 0⟩) u
  rw [hc] at this
  exact this

theorem Av_dropped {E : Env} {a : Act} (hst : St E M w a s) {id : Nat} {bb : Box} (hm : (id, bb) ∈ s.bx) (blk : Nat) (rv : Value) (sz : Nat) {b : Nat} (h : Av E.A0 (M.upd id blk rv sz) (s.drop id).bx b) : Av E.A0 M s.bx b ∧ boxBlk M (id, bb) ≠ some b := by
  refine ⟨Av_drop h, fun hb => ?_⟩
  rcases h with h | ⟨p, hp, hpb⟩
  · have h1 := (hst.boxes.new _ hm b hb).1
    have h2 := hst.boxes.foreign b h
    rcases h1 with h1 | h1
    · exact h2.2 h1
    · have := h2.1; omega
  · obtain ⟨hne, b', hm', he⟩ := mem_drop hp
    obtain ⟨i, bx⟩ := p
    simp only at he hne hm'
    subst he
    rw [boxBlk_upd hne, boxBlk_scrub] at hpb
    have := blks_inj hst.boxes.blks _ hm' _ hm b hpb hb
    cases this
    exact hne rfl

/-- 'x[:n]' of such an array: what it holds is handed on as data. -/
theorem TL_arrSlice {ops : Array Oper} {o : Oper} {rest : List Oper} (t : TypeId) (d id sz len : Nat) (e et : TypeId) (es es' : List D) (x y : Operand) (n : Nat) (hop : o.op = .slice t x none (some y) none) (hd : o.dst = some d) (hg : o.guard = none)
    (hu : P.underlying t = some (.array len e)) (hie : (P.info? e).map (·.size) = some sz) (hx : s.ev x = .one (.rref id 0 0)) (hy : s.ev y = .one (.dat (.int .i64 (n : Int)))) (hl : s.bx.lookup id = some (.row et sz es)) (hlen : es.length = len) (h0 : 0 < len) (hn : n ≤ len) (hes' : es'= es.take n)
    (h : TL P base ops rest Q ((s.drop id).put (some d) (.one (.dat (.sl sz es'))))) : TL P base ops (o :: rest) Q s := by
  subst hes'
  obtain ⟨ie, hie, hsz⟩ := Option.map_eq_some_iff.1 hie
  refine TL_estep hg _ (fun E M w a hE hst => ?_) h
  have rx := ev_rel hst.size hst.slots x
  have ry := ev_rel hst.size hst.slots y
  rw [hx] at rx
  rw [hy] at ry
  simp only [LV.rel, C.rel, Nat.zero_mul, Nat.add_zero] at rx ry
  have ry := relD_int ry
  have hm := lookup_mem hl
  have hal : P.arrayLen t = len := by simp [Program.arrayLen, hu]
  have hel : P.elem t = e := by simp [Program.elem, hu]
  have hrun := run_sliceAt_array_h (P := P) w t ⟨M.blk id, 0, none⟩ (by rw [hal, hel]; exact hu) .i64 (n : Int) (by omega) (by rw [hal]; omega)
  rw [hal, hel] at hrun
  have hr : (execOp a.eval o).run P w = .ok (.value (sliced (some ⟨M.blk id, 0, none⟩) 0 n len sz)) w := by
    simp [execOp, hop, rx, ry, hrun, sizeOf, typeInfo, hie, slicedAt, sliced, hsz, Result.andThen]
    split <;> rfl
  refine EStep.of_run (M' := M.upd id 0 undef 0) hr ?_
  rw [hd]
  have hdrop : St E (M.upd id 0 undef 0) w a (s.drop id) := (hst.toA.drop id 0 undef 0).toSt fun b hb => Av_drop hb
  refine St.put hdrop (some d) ?_
  have hok := hst.boxes.ok id _ hm
  obtain ⟨xs, ho, _, _, _, hb⟩ := hok
  rcases ho.2 with ⟨_, h1⟩ | ⟨g, cap, cur, hrv, _, _, hcap, _⟩
  · omega
  have hgb : g = M.blk id := hb g (by rw [hrv]; rfl)
  subst hgb
  have hrel := row_rel (A := Av E.A0 M s.bx) (Av E.A0 (M.upd id 0 undef 0) (s.drop id).bx) (fun b hb => by
    have h3 := Av_dropped hst hm 0 undef 0 hb
    exact ⟨h3.1, by simpa [boxBlk] using h3.2⟩) (hst.boxes.ok id _ hm)
  rw [hrv] at hrel
  have := sl_sub hrel 0 n len (Nat.zero_le _) (by omega) hn (by omega)
  simpa [LV.rel, C.rel] using this

theorem TI_block {r id : Nat} {c : Code} (h : TI P r base c (DX.blk id Q) s) : TI P r base (.block id c) Q s := by
  intro E M w a hb hs
  refine wpIn_block (wpIn_mono (h E M w a hb hs) ?_)
  rintro e a' w' ⟨E1, hext, dx, s', M', hx, hq, hst⟩
  cases dx with
  | normal =>
    cases e <;> simp only [XRel] at hx
    exact ⟨E1, hext, .normal, s', M', trivial, hq, hst⟩
  | exit j =>
    cases e <;> simp only [XRel] at hx
    subst hx
    simp only [DX.blk] at hq
    simp only [Exit.inBlock]
    split <;> rename_i hj
    · rw [if_pos hj] at hq
      exact ⟨E1, hext, .normal, s', M', trivial, hq, hst⟩
    · rw [if_neg hj] at hq
      exact ⟨E1, hext, .exit _, s', M', rfl, hq, hst⟩
  | ret =>
    cases e <;> simp only [XRel] at hx
    exact ⟨E1, hext, .ret, s', M', trivial, hq, hst⟩
  | panic d =>
    cases e <;> simp only [XRel] at hx
    exact ⟨E1, hext, .panic d, s', M', hx, hq, hst⟩

/-! ### sorting a row -/
def toV : D → Value
  | .int k n => .int k n
  | _ => undef

def intC : D → Bool
  | .int _ _ => true
  | _ => false

theorem toV_rel {A : Nat → Prop} {c : D} (h : intC c = true) : RelD w A c (toV c) := by
  cases c <;> simp [intC] at h
  exact .int _ _

theorem rel_toV {A : Nat → Prop} {c : D} {v : Value} (h : intC c = true) (hr : RelD w A c v) : v = toV c := by
  cases c <;> simp [intC] at h
  cases hr
  rfl

/-- The values of a row of integers. -/
def rowV (es : List D) : List Value := (flat es).map toV

/-- What a function sorts a slice's elements to, called with the function g that compares. -/
def SortOK (P : Program) (f g : FuncId) (e : TypeId) (sz : Nat) {α : Type} (enc : α → D) (R : List α → List α → Prop) : Prop :=
  Callable P f ∧ ∀ (w : World) (blk cap : Nat) (cur : Array Value) (d : List α), d ≠ [] → d.length < 4611686018427387904 → w.heap[blk]? = some (.cells cur e (0, 0)) → d.length ≤ cap → cap ≤ maxLen → cur.size = cap * sz → cur.toList.take (d.length * sz) = rowV (d.map enc) →
    Calls P f #[.slice (some ⟨blk, 0, none⟩) d.length cap, .func (.func g) #[] #[]] w fun x w' => x = .returned (.tuple #[]) ∧
      ∃ d' cur', R d d' ∧ d'.length = d.length ∧ w.grownBy w' (some blk) ∧ w'.heap[blk]? = some (.cells cur' e (0, 0)) ∧ cur'.size = cur.size ∧ cur'.toList.take (d.length * sz) = rowV (d'.map enc)

theorem TL_sort {ops : Array Oper} {o : Oper} {rest : List Oper} {α : Type} {enc : α → D} {R : List α → List α → Prop} (f g : FuncId) (e : TypeId) (sz : Nat) {fop x y : Operand} {ts : Array TypeId} (hok : SortOK P f g e sz enc R)
    (ho : o.op = .call { callee := .value fop, args := #[x, y], argTypes := ts }) (hgd : o.guard = none) (hf : s.ev fop = .one (.fn f [])) (id : Nat) (hx : s.ev x = .one (.own id)) (hy : s.ev y = .one (.fn g [])) (d : List α) (hl : s.bx.lookup id = some (.row e sz (d.map enc)))
    (hne : d ≠ []) (hlt : d.length < 4611686018427387904) (hint : ∀ x, (enc x).cells.length = sz ∧ (enc x).cells.all intC = true)
    (h : ∀ d', R d d' → d'.length = d.length → TL P base ops rest Q ((s.setBox id (.row e sz (d'.map enc))).put o.dst UD)) : TL P base ops (o :: rest) Q s := by
  intro E M w a hE hst
  refine wpList_plain hgd fun K hK => ?_
  have hslots := ev_rel hst.size hst.slots
  have hfr := hslots fop
  rw [hf] at hfr
  obtain ⟨cv, hfv, hcs, hcv⟩ := hfr
  have hcv0 : cv = #[] := Array.eq_empty_of_size_eq_zero (by simpa using hcs)
  subst hcv0
  have hyr := hslots y
  rw [hy] at hyr
  obtain ⟨cy, hyv, hcy, _⟩ := hyr
  have hcy0 : cy = #[] := Array.eq_empty_of_size_eq_zero (by simpa using hcy)
  subst hcy0
  unfold Oper.wp
  rw [run_call_func ho hfv hok.1, Oper.upon_enter]
  have hxr := hslots x
  rw [hx] at hxr
  simp only [LV.rel, C.rel] at hxr
  have hm := lookup_mem hl
  have hsz : ∀ (l : List α), ∀ c ∈ l.map enc, c.cells.length = sz := fun l c hc => by
    obtain ⟨z, _, rfl⟩ := List.mem_map.1 hc
    exact (hint z).1
  have hall : ∀ (l : List α) (j : Nat) (c : D), (flat (l.map enc))[j]? = some c → intC c = true := fun l j c hc => by
    have := List.mem_of_getElem? hc
    simp only [flat, List.mem_flatMap, List.mem_map] at this
    obtain ⟨_, ⟨z, _, rfl⟩, hcz⟩ := this
    exact List.all_eq_true.1 (hint z).2 c hcz
  obtain ⟨xs, ho', hu, hMs, hrel, hblk⟩ := hst.boxes.ok id _ hm
  have hdl : 0 < d.length := List.length_pos_iff.2 hne
  rw [List.length_map] at ho'
  rcases ho'.2 with ⟨_, h1⟩ | ⟨g0, cap, cur, hrv, _, hheap, hcap, hcapm, hcs', htk⟩
  · omega
  have hgb : g0 = M.blk id := hblk g0 (by rw [hrv]; rfl)
  subst hgb
  have hargs : (#[x, y] : Array Operand).map a.eval ++ #[] = #[.slice (some ⟨M.blk id, 0, none⟩) d.length cap, .func (.func g) #[] #[]] := by
    simp [hxr, hrv, hyv]
  rw [hargs]
  have hfl : ∀ l : List α, (flat (l.map enc)).length = l.length * sz := fun l => by rw [flat_length _ (hsz l), List.length_map]
  have hxs : xs = rowV (d.map enc) := by
    apply List.ext_getElem?
    intro j
    rw [rowV, List.getElem?_map]
    cases hj : (flat (d.map enc))[j]? with
    | none =>
      have : (flat (d.map enc)).length ≤ j := List.getElem?_eq_none_iff.1 hj
      rw [hfl] at this
      have h3 := ho'.1
      simp; omega
    | some c =>
      obtain ⟨v, hv, hr⟩ := hrel j c hj
      rw [hv, rel_toV (hall d j c hj) hr]; rfl
  refine (hok.2 w (M.blk id) cap cur d hne hlt hheap hcap hcapm hcs' (by rw [← hxs, ← htk]) ).mono ?_
  rintro x' w' ⟨rfl, d', cur', hR, hlen, hg, hheap', hsz', htk'⟩
  refine hK _ _ (h d' hR hlen E M w' _ hE ?_)
  refine St.put (hst.setBox (b := .row e sz (d'.map enc)) hm rfl ?_ fun A' _ => ?_) o.dst ?_
  · simpa [boxBlk, hrv, Value.ownBlock] using hg
  · refine ⟨rowV (d'.map enc), ⟨?_, .inr ⟨M.blk id, cap, cur', by rw [hrv, List.length_map, hlen], Nat.zero_le _, hheap', by rw [List.length_map]; omega, hcapm, by rw [hsz']; exact hcs', ?_⟩⟩, hsz d', hMs, fun j c hj => ⟨toV c, by rw [rowV, List.getElem?_map, hj]; rfl, toV_rel (hall d' j c hj)⟩, hblk⟩
    · rw [rowV, List.length_map, hfl, List.length_map]
    · rw [List.length_map, hlen]; exact htk'
  · exact ud_rel
end
end Go.DL

/-
  The data-level framework, second series, part c: maps from int to int of the call's own. Generic in the program; no condition.
-/
set_option linter.unusedVariables false
set_option linter.unusedSimpArgs false
namespace Go.DL
open Go.RowKit Go.Maps

def mapD (l : List (Int × Int)) : DataW Unit := .map (l.map fun p => (.int .i64 p.1, .lit (.int .i64 p.2)))

def mget : List (Int × Int) → Int → Int
  | [], _ => 0
  | p :: l, a => if p.1 = a then p.2 else mget l a

def minsert (x : Int × Int) : List (Int × Int) → List (Int × Int)
  | [] => [x]
  | y :: r => if x.1 < y.1 then x :: y :: r else y :: minsert x r

def mput (l : List (Int × Int)) (a v : Int) : List (Int × Int) := minsert (a, v) (l.filter fun p => !(p.1 == a))

theorem mapD_get (l : List (Int × Int)) (a : Int) : (mapD l).atKey (.int .i64 a) (.lit (.int .i64 0)) = .lit (.int .i64 (mget l a)) := by
  simp only [mapD, DataW.atKey]
  induction l with
  | nil => rfl
  | cons p l ih =>
    simp only [List.map_cons, List.find?_cons, Lit.sameKey, mget]
    by_cases h : p.1 = a
    · simp [h]
    · simp only [h, and_false, decide_false, if_false]
      exact ih

theorem mapD_ins (x : Int × Int) (l : List (Int × Int)) : DataW.insert ((.int .i64 x.1 : Lit), (.lit (.int .i64 x.2) : DataW Unit)) (l.map fun p => (.int .i64 p.1, .lit (.int .i64 p.2))) = (minsert x l).map fun p => (.int .i64 p.1, .lit (.int .i64 p.2)) := by
  induction l with
  | nil => rfl
  | cons y r ih =>
    simp only [List.map_cons, DataW.insert, minsert, Lit.before]
    by_cases h : x.1 < y.1
    · simp [h]
    · simp only [h, decide_false, if_false, Bool.false_eq_true, List.map_cons]
      rw [ih]

theorem mapD_put (l : List (Int × Int)) (a v : Int) : (mapD l).put (.int .i64 a) (.lit (.int .i64 v)) = mapD (mput l a v) := by
  simp only [mapD, DataW.put, mput]
  rw [← mapD_ins, List.filter_map]
  congr 3
  refine List.filter_congr fun p _ => ?_
  simp only [Lit.sameKey, Function.comp_def, true_and]
  by_cases h : p.1 = a <;> simp [h]

theorem wf_i64 {a : Int} (h1 : -9223372036854775808 ≤ a) (h2 : a ≤ 9223372036854775807) : (Lit.int .i64 a).wf = true := by
  simp [Lit.wf, IntKind.min, IntKind.max, IntKind.bits, IntKind.signed]
  omega

section
variable {P : Program} {w : World} {M : BMap} {base : Nat} {Q : DX → DS → Prop} {s : DS}

/-- The least bound of such a map. -/
theorem ownsMap_size {k e : TypeId} {b n : Nat} {l : List (Int × Int)} (h : w.ownsMap P k (plainElem P e) b n (mapD l)) : w.ownsMap P k (plainElem P e) b l.length (mapD l) := by
  obtain ⟨es, clock, hb, F, _, hD⟩ := h
  refine ⟨es, clock, hb, F, ?_, hD⟩
  have h2 := congrArg (fun d => match d with | DataW.map es => es.length | _ => 0) hD
  simp only [mapD, List.length_map] at h2
  rw [length_sorted] at h2
  simp at h2
  omega

theorem TL_makeMap {ops : Array Oper} {o : Oper} {rest : List Oper} (t k e : TypeId) (d id : Nat) (hop : o.op = .makeMap t none) (hd : o.dst = some d) (hg : o.guard = none) (hu : P.underlying t = some (.map k e)) (hb : Nat.ble base id = true)
    (h : TL P base ops rest Q (((s.drop id).push id (.map P k e (mapD []))).put (some d) (.one (.own id)))) : TL P base ops (o :: rest) Q s := by
  refine TL_estep hg _ (fun E M w a hE hst => ?_) h
  have hr : (execOp a.eval o).run P w = .ok (.value (.map (some w.heap.size))) (w.alloc (.map #[] 0)) := by
    simp [execOp, hop, run_makeMap]
  refine EStep.of_run (M' := M.upd id w.heap.size (.map (some w.heap.size)) 0) hr ?_
  rw [hd]
  refine St.put ?_ (some d) (by simp [LV.rel, C.rel, BMap.upd])
  refine StA.push (hst.toA.drop id w.heap.size (.map (some w.heap.size)) 0) drop_free (by rw [hE]; exact Nat.le_of_ble_eq_true hb) (row := none) (World.grownBy_alloc w _ none) (fun k hk => by cases hk) (fun b hb => Av_drop hb) (fun k hk => ?_) fun A' _ => ?_
  · simp only [boxBlk, BMap.upd, if_true, Option.some.injEq] at hk
    subst hk
    exact ⟨.inr (Nat.le_refl _), by simp⟩
  · refine ⟨by simp [BMap.upd], 0, ?_⟩
    simp only [BMap.upd, if_true]
    exact World.ownsMap_made w P k (plainElem P e)

theorem TL_lookup {ops : Array Oper} {o : Oper} {rest : List Oper} (t k e : TypeId) (id : Nat) (m x : Operand) (l : List (Int × Int)) (a : Int) (hop : o.op = .lookup t m x false) (hg : o.guard = none) (hu : P.underlying t = some (.map k e)) (hk : P.underlying k = some (.int .i64)) (he : P.underlying e = some (.int .i64))
    (hz : (P.info? e).bind (·.zero) = some (.int .i64 0)) (hm : s.ev m = .one (.own id)) (hx : s.ev x = .one (.dat (.int .i64 a))) (hl : s.bx.lookup id = some (.map P k e (mapD l))) (h1 : -9223372036854775808 ≤ a ∧ a ≤ 9223372036854775807)
    (h : TL P base ops rest Q (s.put o.dst (.one (.dat (.int .i64 (mget l a)))))) : TL P base ops (o :: rest) Q s := by
  refine TL_estep hg _ (fun E M w act hE hst => ?_) h
  have rm := ev_rel hst.size hst.slots m
  have rx := ev_rel hst.size hst.slots x
  rw [hm] at rm
  rw [hx] at rx
  simp only [LV.rel, C.rel] at rm rx
  have rx := relD_int rx
  obtain ⟨g1, n, g2⟩ := hst.boxes.ok id _ (lookup_mem hl)
  have hzv : (zeroValue e).run P w = .ok (.int .i64 0) w := by
    cases hi : P.info? e with
    | none => simp [hi] at hz
    | some i =>
      simp only [hi, Option.bind_some] at hz
      simp [zeroValue, typeInfo, hi, hz]
  obtain ⟨c, hrun, hat, _⟩ := g2.lookup_int (int_keyed hk) hu he hzv (key := .int .i64 a) (kl := .int .i64 a) (by simp [keyOf, hk, mapKey, wf_i64 h1.1 h1.2])
  rw [mapD_get] at hat
  simp only [DataW.lit.injEq, Lit.int.injEq, true_and] at hat
  subst hat
  have hr : (execOp act.eval o).run P w = .ok (.value (.int .i64 (mget l a))) w := by
    simp [execOp, hop, rm, g1, rx, hrun]
  exact EStep.of_run (M' := M) hr (hst.put o.dst (.int .i64 _))

theorem TL_mapUpdate {ops : Array Oper} {o : Oper} {rest : List Oper} (t k e : TypeId) (id : Nat) (m x y : Operand) (l : List (Int × Int)) (a v : Int) (hop : o.op = .mapUpdate t m x y) (hg : o.guard = none) (hu : P.underlying t = some (.map k e)) (hk : P.underlying k = some (.int .i64)) (he : P.underlying e = some (.int .i64))
    (hm : s.ev m = .one (.own id)) (hx : s.ev x = .one (.dat (.int .i64 a))) (hy : s.ev y = .one (.dat (.int .i64 v))) (hl : s.bx.lookup id = some (.map P k e (mapD l))) (h1 : -9223372036854775808 ≤ a ∧ a ≤ 9223372036854775807) (h2 : -9223372036854775808 ≤ v ∧ v ≤ 9223372036854775807) (hn : l.length < maxLen)
    (h : TL P base ops rest Q ((s.setBox id (.map P k e (mapD (mput l a v)))).put o.dst UD)) : TL P base ops (o :: rest) Q s := by
  refine TL_estep hg _ (fun E M w act hE hst => ?_) h
  have rm := ev_rel hst.size hst.slots m
  have rx := ev_rel hst.size hst.slots x
  have ry := ev_rel hst.size hst.slots y
  rw [hm] at rm
  rw [hx] at rx
  rw [hy] at ry
  simp only [LV.rel, C.rel] at rm rx ry
  have rx := relD_int rx
  have ry := relD_int ry
  have hmem := lookup_mem hl
  obtain ⟨g1, n, g2⟩ := hst.boxes.ok id _ hmem
  obtain ⟨w', hrun, r1, r2⟩ := (ownsMap_size g2).update (int_keyed hk) hu hn (key := .int .i64 a) (kl := .int .i64 a) (val := .int .i64 v) (d := .lit (.int .i64 v)) (ps := []) (by simp [keyOf, hk, mapKey, wf_i64 h1.1 h1.2]) (plainElem_int he (wf_i64 h2.1 h2.2))
  rw [mapD_put] at r1
  intro K Q' hK
  have hst' : St E M w' act (s.setBox id (.map P k e (mapD (mput l a v)))) := hst.setBox (b := .map P k e (mapD (mput l a v))) hmem rfl r2 fun A' _ => ⟨g1, _, r1⟩
  have := hK undef w' M (hst'.put o.dst ud_rel)
  unfold Oper.wp
  simp only [execOp, hop, rm, g1, rx, ry, Sem.run_bind, hrun, Result.andThen]
  exact this

/-- What maps.Keys and then slices.Sorted make of a map of the call's own. -/
def KeysOK (P : Program) (f g : FuncId) (k e et : TypeId) : Prop :=
  Callable P f ∧ Callable P g ∧ ∀ (w : World) (b n : Nat) (l : List (Int × Int)), w.ownsMap P k (plainElem P e) b n (mapD l) → n < 17592186044416 →
    Calls P f #[.map (some b)] w fun x1 w1 => ∃ v1, x1 = .returned v1 ∧ Below w.heap.size w w1 ∧
      Calls P g #[v1] w1 fun x2 w2 => ∃ (v2 : Value) (ss : List Int), x2 = .returned v2 ∧ Below w.heap.size w w2 ∧ ss.Perm (intKeys (mapD l)) ∧ w2.ownsRow w.heap.size et 1 v2 ss.length ((ss.mergeSort fun x y => decide (x ≤ y)).map encZ)

theorem mergeSort_keys {ss ks : List Int} (hp : ss.Perm ks) (hs : ks.Pairwise (· < ·)) : (ss.mergeSort fun x y => decide (x ≤ y)) = ks := by
  have h1 : (ss.mergeSort fun x y => decide (x ≤ y)).Pairwise fun x y => decide (x ≤ y) = true := List.pairwise_mergeSort (fun a b c h1 h2 => by simp at *; omega) (fun a b => by simp; omega) ss
  have h2 : ks.Pairwise fun x y => decide (x ≤ y) = true := hs.imp fun h => by simp; omega
  exact ((List.mergeSort_perm ss _).trans hp).eq_of_pairwise (fun a b _ _ h1 h2 => by simp at h1 h2; omega) h1 h2

theorem intKeys_mapD (l : List (Int × Int)) : intKeys (mapD l) = l.map (·.1) := by
  simp [intKeys, mapD, intOf, Function.comp_def]

theorem TL_keys {ops : Array Oper} {o1 o2 : Oper} {rest : List Oper} (f g : FuncId) (k e et : TypeId) (hok : KeysOK P f g k e et) {f1 g1 m : Operand} {ts1 ts2 : Array TypeId} (d1 d2 id mid : Nat)
    (ho1 : o1.op = .call { callee := .value f1, args := #[m], argTypes := ts1 }) (hg1 : o1.guard = none) (hf1 : s.ev f1 = .one (.fn f [])) (hd1 : o1.dst = some d1)
    (ho2 : o2.op = .call { callee := .value g1, args := #[.tmp d1], argTypes := ts2 }) (hg2 : o2.guard = none) (hf2 : (s.put (some d1) (.one .junk)).ev g1 = .one (.fn g [])) (hd2 : o2.dst = some d2) (hlt : Nat.blt d1 s.sl.length = true)
    (hm : s.ev m = .one (.own mid)) (l : List (Int × Int)) (hl : s.bx.lookup mid = some (.map P k e (mapD l))) (hs : (l.map (·.1)).Pairwise (· < ·)) (hn : l.length < 17592186044416) (hb : Nat.ble base id = true)
    (h : TL P base ops rest Q ((((s.put (some d1) (.one .junk)).drop id).push id (.row et 1 ((l.map (·.1)).map fun x => .int .i64 x))).put (some d2) (.one (.own id)))) : TL P base ops (o1 :: o2 :: rest) Q s := by
  intro E M w a hE hst
  refine wpList_plain hg1 fun K hK => ?_
  have hslots := ev_rel hst.size hst.slots
  have hfr := hslots f1
  rw [hf1] at hfr
  obtain ⟨cv, hfv, hcs, _⟩ := hfr
  have hcv0 : cv = #[] := Array.eq_empty_of_size_eq_zero (by simpa using hcs)
  subst hcv0
  unfold Oper.wp
  rw [run_call_func ho1 hfv hok.1, Oper.upon_enter]
  have rm := hslots m
  rw [hm] at rm
  simp only [LV.rel, C.rel] at rm
  obtain ⟨e1, n, e2⟩ := hst.boxes.ok mid _ (lookup_mem hl)
  have hargs : (#[m] : Array Operand).map a.eval ++ #[] = #[.map (some (M.blk mid))] := by simp [rm, e1]
  rw [hargs]
  refine (hok.2.2 w (M.blk mid) l.length l (ownsMap_size e2) hn).mono ?_
  rintro x1 w1 ⟨v1, rfl, hb1, hcall⟩
  refine hK _ _ ?_
  rw [hd1]
  have hst1 : St E M w1 (a.put (some d1) v1) (s.put (some d1) (.one .junk)) := (hst.below hb1).put (some d1) (l := .one .junk) trivial
  refine wpList_plain hg2 fun K2 hK2 => ?_
  have hgr := ev_rel hst1.size hst1.slots g1
  rw [hf2] at hgr
  obtain ⟨cg, hgv, hcg, _⟩ := hgr
  have hcg0 : cg = #[] := Array.eq_empty_of_size_eq_zero (by simpa using hcg)
  subst hcg0
  unfold Oper.wp
  rw [run_call_func ho2 hgv hok.2.1, Oper.upon_enter]
  have hlt' : d1 < a.tmps.size := by rw [hst.size]; simpa [Nat.blt_eq] using hlt
  have hargs2 : (#[.tmp d1] : Array Operand).map (a.put (some d1) v1).eval ++ #[] = #[v1] := by simp [Act.eval, Act.put, hlt']
  rw [hargs2]
  refine hcall.mono ?_
  rintro x2 w2 ⟨v2, ss, rfl, hb2, hp, hrow⟩
  refine hK2 _ _ ?_
  rw [hd2]
  have hss : (ss.mergeSort fun x y => decide (x ≤ y)) = l.map (·.1) := mergeSort_keys (by rw [← intKeys_mapD]; exact hp) hs
  have hlen : ss.length = l.length := by have := hp.length_eq; rw [intKeys_mapD] at this; simpa using this
  rw [hss, hlen] at hrow
  have hst2 : St E M w (a.put (some d1) v1) (s.put (some d1) (.one .junk)) := hst.put (some d1) (l := .one .junk) trivial
  refine h E (M.upd id (v2.ownBlock.getD 0) v2 1) w2 _ hE (St.put ?_ (some d2) (by simp [LV.rel, C.rel, BMap.upd]))
  refine StA.push (hst2.toA.drop id (v2.ownBlock.getD 0) v2 1) drop_free (by rw [hE]; exact Nat.le_of_ble_eq_true hb) (row := none) ⟨hb2.os, hb2.tape, hb2.output, hb2.size, fun i hi _ => hb2.block i hi⟩ (fun k hk => by cases hk) (fun b hb => Av_drop hb) (fun k hk => ?_) fun A' _ => ?_
  · simp only [boxBlk, BMap.upd, if_true] at hk
    rcases hrow.2 with ⟨rfl, _⟩ | ⟨g0, cap, cur, rfl, hbase, hg0, _⟩
    · simp [Value.ownBlock] at hk
    · simp only [Value.ownBlock, Option.some.injEq] at hk
      subst hk
      exact ⟨.inr hbase, (Array.getElem?_eq_some_iff.1 hg0).1⟩
  · have hfl : flat ((l.map (·.1)).map fun x => D.int .i64 x) = (l.map (·.1)).map fun x => D.int .i64 x := by
      generalize l.map (·.1) = ks
      induction ks with
      | nil => rfl
      | cons x r ih => rw [List.map_cons, flat_cons, ih]; rfl
    refine ⟨(l.map (·.1)).map encZ, ?_, fun d hd => ?_, by simp [BMap.upd], fun j c hj => ?_, fun k hk => ?_⟩
    · have := hrow
      refine ⟨by simp, ?_⟩
      rcases hrow.2 with ⟨hv, h0⟩ | ⟨g0, cap, cur, hv, _, r⟩
      · exact .inl ⟨by simp [BMap.upd, hv], by simpa using h0⟩
      · refine .inr ⟨g0, cap, cur, by simp [BMap.upd, hv], Nat.zero_le _, ?_⟩
        simpa using r
    · obtain ⟨x, _, rfl⟩ := List.mem_map.1 hd; rfl
    · rw [hfl, List.getElem?_map, Option.map_eq_some_iff] at hj
      obtain ⟨x, hx, rfl⟩ := hj
      exact ⟨encZ x, by rw [List.getElem?_map, hx]; rfl, .int _ _⟩
    · simp only [BMap.upd, if_true] at hk ⊢
      rw [hk]; rfl
end
end Go.DL

/-
  The plain data of chapter 38 and what its functions compute. Conditions: those of each theorem.
-/
set_option linter.unusedVariables false
set_option linter.unusedSimpArgs false
namespace Go.Proofs.Ytpkbecaailhhmaa
open Go.DL
structure Train where
  c : Int
  s : Int
  deriving DecidableEq
structure Fee where
  a : Int
  p : Int
  m : Int
  s : Int
  t : List Train
  deriving DecidableEq
structure Part where
  i : Int
  c : Int
  r : Int
  deriving DecidableEq
def encTrain (x : Train) : D := .agg [.int .i64 x.c, .int .i64 x.s]
def encPart (p : Part) : D := .agg [.int .i64 p.i, .int .i64 p.c, .int .i64 p.r]
def valPart (p : Part) : Value := .agg #[.int .i64 p.i, .int .i64 p.c, .int .i64 p.r]
theorem encPart_one (l : List Part) : cellsOne (l.map encPart) := by
  intro d hd c hc; obtain ⟨x, _, rfl⟩ := List.mem_map.1 hd; simp [encPart, D.cells] at hc; rcases hc with rfl | rfl | rfl <;> rfl
theorem part_rel (x : Part) (w : World) (A : Nat → Prop) (M : BMap) : LV.rel w A M (.agg [.dat (I x.i), .dat (I x.c), .dat (I x.r)]) (valPart x) := by
  refine ⟨_, rfl, rfl, fun j c hj => ?_⟩
  match j with
  | 0 => cases hj; exact ⟨_, rfl, .int _ _⟩
  | 1 => cases hj; exact ⟨_, rfl, .int _ _⟩
  | 2 => cases hj; exact ⟨_, rfl, .int _ _⟩
  | n + 3 => simp at hj

def chkM (n : Int) : Int := if n > 1125899906842624 ∨ n < -1125899906842624 then 50 else 0
def partM (n k : Int) : Int × Int := if n > 1125899906842624 ∨ n < -1125899906842624 then (0, 50) else if k < 0 ∨ k > 1000 then (0, 1) else ((n * k).tdiv 1000, 0)
def trOK (p : Int) : List Train → Bool
  | [] => true
  | t :: l => if t.c < 0 ∨ t.c ≥ 192 ∨ t.s < 1 ∨ t.s > 12 ∨ t.c ≤ p then false else trOK t.c l
def headOK (f : Fee) : Prop := 0 ≤ f.a ∧ f.a ≤ 1125899906842624 ∧ 0 ≤ f.p ∧ f.p ≤ 1125899906842624 ∧ ((0 ≤ f.m ∧ f.m < 192) ∨ (f.m = -1 ∧ f.s = 0)) ∧ 0 ≤ f.s ∧ f.s ≤ 1000 ∧ f.t.length ≤ 40
instance (f : Fee) : Decidable (headOK f) := by unfold headOK; infer_instance
def chk (f : Fee) : Int := if headOK f then (if trOK (-1) f.t then 0 else 380) else 380
def solid (f : Fee) : Int := if f.t.length = 0 then 0 else (partM f.a 50).1
theorem trOK_stop {l : List Train} {k : Nat} {x : Train} {p : Int} (h : trOK p (l.drop k) = trOK (-1) l) (hx : l[k]? = some x) (hb : x.c < 0 ∨ x.c ≥ 192 ∨ x.s < 1 ∨ x.s > 12 ∨ x.c ≤ p) : trOK (-1) l = false := by
  rw [← h, drop_cons hx, trOK, if_pos hb]
theorem trOK_step {l : List Train} {k : Nat} {x : Train} {p : Int} (h : trOK p (l.drop k) = trOK (-1) l) (hx : l[k]? = some x) (hb : ¬ (x.c < 0 ∨ x.c ≥ 192 ∨ x.s < 1 ∨ x.s > 12 ∨ x.c ≤ p)) : trOK x.c (l.drop (k + 1)) = trOK (-1) l := by
  rw [← h, drop_cons hx, trOK, if_neg hb]
theorem trOK_end {l : List Train} {k : Nat} {p : Int} (h : trOK p (l.drop k) = trOK (-1) l) (hk : l.length ≤ k) : trOK (-1) l = true := by
  rw [← h, List.drop_eq_nil_of_le hk]; rfl
theorem chk_bad {f : Fee} (h : ¬ headOK f) : (380 : Int) = chk f := by rw [chk, if_neg h]
theorem chk_bad2 {f : Fee} (h : trOK (-1) f.t = false) : (380 : Int) = chk f := by rw [chk]; split <;> simp [h]
theorem chk_ok {f : Fee} (h : headOK f) (h2 : trOK (-1) f.t = true) : (0 : Int) = chk f := by rw [chk, if_pos h, if_pos h2]
theorem chk_cases (f : Fee) : chk f = 380 ∨ (chk f = 0 ∧ headOK f ∧ trOK (-1) f.t = true) := by
  unfold chk; split
  · split
    · exact .inr ⟨rfl, by assumption, by assumption⟩
    · exact .inl rfl
  · exact .inl rfl
theorem chkM_cases (n : Int) : (chkM n = 50 ∧ (n > 1125899906842624 ∨ n < -1125899906842624)) ∨ (chkM n = 0 ∧ n ≤ 1125899906842624 ∧ -1125899906842624 ≤ n) := by
  unfold chkM; split
  · exact .inl ⟨rfl, by assumption⟩
  · exact .inr ⟨rfl, by omega, by omega⟩
theorem tdiv_bounds (x : Int) (d : Int) (hd : 0 < d) {m : Int} (h1 : -m ≤ x) (h2 : x ≤ m) : -m ≤ x.tdiv d ∧ x.tdiv d ≤ m := by
  have h := Int.natAbs_tdiv x d
  have h3 : (x.tdiv d).natAbs ≤ x.natAbs := by rw [h]; exact Nat.div_le_self _ _
  omega
theorem part_bounds {n k : Int} (h : chkM n = 0) (h0 : 0 ≤ k) (h1 : k ≤ 1000) : -1125899906842624000 ≤ n * k ∧ n * k ≤ 1125899906842624000 ∧ -1125899906842624000 ≤ (n * k).tdiv 1000 ∧ (n * k).tdiv 1000 ≤ 1125899906842624000 := by
  have hc := chkM_cases n
  have a1 : n * k ≤ 1125899906842624 * k := Int.mul_le_mul_of_nonneg_right (by omega) h0
  have a2 : -1125899906842624 * k ≤ n * k := Int.mul_le_mul_of_nonneg_right (by omega) h0
  have := tdiv_bounds (n * k) 1000 (by omega) (m := 1125899906842624000) (by omega) (by omega)
  omega
theorem solid_bounds (f : Fee) (h : chk f = 0) : 0 ≤ solid f ∧ solid f ≤ f.a ∧ 0 ≤ f.a ∧ f.a ≤ 1125899906842624 ∧ 0 ≤ f.p ∧ f.p ≤ 1125899906842624 ∧ 0 ≤ f.s ∧ f.s ≤ 1000 ∧ (f.m = -1 ∨ 0 ≤ f.m) := by
  rcases chk_cases f with hc | ⟨_, hh, _⟩
  · omega
  · unfold headOK at hh
    have : 0 ≤ solid f ∧ solid f ≤ f.a := by
      unfold solid partM
      split
      · omega
      · rw [if_neg (by omega), if_neg (by omega)]
        show 0 ≤ (f.a * 50).tdiv 1000 ∧ (f.a * 50).tdiv 1000 ≤ f.a
        rw [Int.tdiv_eq_ediv_of_nonneg (by omega)]
        omega
    omega
/-- What the former club gets, and the error. -/
def profit (f : Fee) : Int × Int := if chk f ≠ 0 then (0, chk f) else if f.m < 0 ∨ f.a - solid f - f.p ≤ 0 then (0, 0) else partM (f.a - solid f - f.p) f.s
theorem partM_two {n k : Int} (h1 : n ≤ 1125899906842624) (h2 : -1125899906842624 ≤ n) (h3 : 0 ≤ k) (h4 : k ≤ 1000) : (partM n k).2 = 0 := by
  rw [partM, if_neg (by omega), if_neg (by omega)]
theorem profit_max {f : Fee} (h : chk f = 0) (hm : f.m ≠ -1) : partM (if f.a - solid f - f.p > 0 then f.a - solid f - f.p else 0) f.s = profit f := by
  have := solid_bounds f h
  have e : profit f = if f.m < 0 ∨ f.a - solid f - f.p ≤ 0 then (0, 0) else partM (f.a - solid f - f.p) f.s := by rw [profit, if_neg (by omega)]
  rw [e]
  by_cases hx : f.a - solid f - f.p ≤ 0
  · rw [if_neg (show ¬ (f.a - solid f - f.p > 0) by omega), if_pos (.inr hx), partM, if_neg (by omega), if_neg (by omega)]; simp
  · rw [if_pos (show f.a - solid f - f.p > 0 by omega), if_neg (by omega)]
/-- What a club gets by a list. -/
def amt (c : Int) : List Pay → Int
  | [] => 0
  | p :: l => if p.c = c then p.a else amt c l
end Go.Proofs.Ytpkbecaailhhmaa

/-
  The plain law of money.Split: parts by rank. No conditions but those of each theorem.
-/
set_option linter.unusedVariables false
set_option linter.unusedSimpArgs false
namespace Go.Proofs.Ytpkbecaailhhmaa
open Go.DL
def partAt (a sum : Int) (ws : List Int) (k : Nat) : Part := ⟨k, (a * ws.getD k 0).tdiv sum, (a * ws.getD k 0).tmod sum⟩
def partsOf (a sum : Int) (ws : List Int) : List Part := (List.range ws.length).map (partAt a sum ws)
theorem partsOf_take (a sum : Int) (ws : List Int) {k : Nat} (h : k < ws.length) : (List.range k).map (partAt a sum ws) ++ [partAt a sum ws k] <+: partsOf a sum ws := by
  refine ⟨((List.range ws.length).map (partAt a sum ws)).drop (k + 1), ?_⟩
  have : (List.range k).map (partAt a sum ws) ++ [partAt a sum ws k] = ((List.range ws.length).map (partAt a sum ws)).take (k + 1) := by
    rw [← List.map_take, List.take_range, Nat.min_eq_left (by omega), List.range_succ, List.map_append]; rfl
  rw [this, List.take_append_drop]; rfl
def vInt : Value → Int
  | .int _ q => q
  | _ => 0
def sumI (l : List Int) : Int := l.foldl (· + ·) 0
/-- What is left of a, the parts of a list taken away. -/
def leftOf (a : Int) (l : List Part) : Int := l.foldl (fun n p => n - p.c) a
theorem leftOf_snoc (a : Int) (l : List Part) (x : Part) : leftOf a (l ++ [x]) = leftOf a l - x.c := by simp [leftOf]
/-- Parts of greater rest stand ahead; of those with one rest, the one of smaller index. -/
def ahead (p q : Part) : Bool := decide (q.r < p.r) || (decide (p.r = q.r) && decide (p.i < q.i))
def rank (l : List Part) (p : Part) : Nat := l.countP (fun q => ahead q p)
def splitW (a sum : Int) (ws : List Int) : List Int :=
  (partsOf a sum ws).map fun p => p.c + if (rank (partsOf a sum ws) p : Int) < leftOf a (partsOf a sum ws) then 1 else 0
end Go.Proofs.Ytpkbecaailhhmaa

/-
  The plain law of money.Split, first part: what the walk of its code needs. Conditions: those of each theorem.
-/
set_option linter.unusedVariables false
set_option linter.unusedSimpArgs false
namespace Go.Proofs.Ytpkbecaailhhmaa
open Go.DL
def sumL (n : Int) : List Int → Int
  | [] => n
  | x :: l => sumL (n + x) l
theorem sumL_nil (ws : List Int) : ws.length ≠ 0 ∨ sumL 0 ws = 0 := by
  cases ws with
  | nil => exact .inr rfl
  | cons x l => exact .inl (by simp)
theorem sumL_end {ws : List Int} {n : Int} {k : Nat} (iv : sumL n (ws.drop k) = sumL 0 ws) (h : ws.length ≤ k) : n = sumL 0 ws := by
  rw [List.drop_eq_nil_of_le h] at iv; exact iv
theorem partsOf_length (a s : Int) (ws : List Int) : (partsOf a s ws).length = ws.length := by simp [partsOf]
theorem prefix_mem {α : Type} {pre xs : List α} {x : α} (h : pre ++ [x] <+: xs) : x ∈ xs := h.subset (by simp)
theorem prefix_len {α : Type} {pre xs : List α} {x : α} (h : pre ++ [x] <+: xs) : pre.length + 1 ≤ xs.length := by have := h.length_le; simpa using this
theorem getD_mem {ws : List Int} {k : Nat} (h : k < ws.length) : ws.getD k 0 ∈ ws := by
  simp only [List.getD, List.getElem?_eq_getElem h, Option.getD_some]; exact List.getElem_mem h
theorem sumL_add (l : List Int) : ∀ n m : Int, sumL (n + m) l = sumL n l + m := by
  induction l with
  | nil => intro n m; rfl
  | cons x l ih => intro n m; simp only [sumL]; rw [show n + m + x = (n + x) + m by omega, ih]
theorem sumL_nonneg {l : List Int} (h : ∀ x ∈ l, 0 ≤ x) : 0 ≤ sumL 0 l := by
  induction l with
  | nil => exact Int.le_refl _
  | cons x l ih =>
    have h1 := ih fun y hy => h y (by simp [hy])
    have h2 := h x (by simp)
    have e : sumL 0 (x :: l) = sumL 0 l + x := by simp only [sumL]; exact sumL_add l 0 x
    omega
theorem le_sumL {l : List Int} (h : ∀ x ∈ l, 0 ≤ x) {x : Int} (hx : x ∈ l) : x ≤ sumL 0 l := by
  induction l with
  | nil => cases hx
  | cons y l ih =>
    have h1 : ∀ x ∈ l, 0 ≤ x := fun z hz => h z (by simp [hz])
    have e : sumL 0 (y :: l) = sumL 0 l + y := by simp only [sumL]; exact sumL_add l 0 y
    have h2 := sumL_nonneg h1
    have h3 := h y (by simp)
    rcases List.mem_cons.1 hx with rfl | hx
    · omega
    · have := ih h1 hx; omega
theorem part_bounds2 {a s : Int} {ws : List Int} (ha : 0 ≤ a) (ha2 : a ≤ 1125899906842624) (hs : 0 < s) (hw : ∀ x ∈ ws, 0 ≤ x ∧ x ≤ 1000) (hl : ws.length ≤ 256) (hws : ∀ x ∈ ws, x ≤ s) {x : Part} (hx : x ∈ partsOf a s ws) :
    0 ≤ x.i ∧ x.i < ws.length ∧ 0 ≤ x.c ∧ x.c ≤ 1125899906842624 ∧ 0 ≤ x.r ∧ x.r < s := by
  simp only [partsOf, List.mem_map, List.mem_range] at hx
  obtain ⟨k, hk, rfl⟩ := hx
  have h1 := hw _ (getD_mem hk)
  have h2 : 0 ≤ a * ws.getD k 0 := Int.mul_nonneg ha h1.1
  have h3 : a * ws.getD k 0 ≤ a * s := Int.mul_le_mul_of_nonneg_left (hws _ (getD_mem hk)) ha
  simp only [partAt]
  generalize a * ws.getD k 0 = m at h2 h3
  rw [Int.tdiv_eq_ediv_of_nonneg h2, Int.tmod_eq_emod_of_nonneg h2]
  have h4 := Int.ediv_nonneg h2 (Int.le_of_lt hs)
  have h5 := Int.ediv_le_of_le_mul hs h3
  have h6 := Int.emod_nonneg m (Int.ne_of_gt hs)
  have h7 := Int.emod_lt_of_pos m hs
  omega
/-- Parts of indices among those of a list. -/
theorem leftOf_low (l : List Part) : ∀ a b : Int, (∀ x ∈ l, 0 ≤ x.c ∧ x.c ≤ b) → a - b * l.length ≤ leftOf a l ∧ leftOf a l ≤ a := by
  induction l with
  | nil => intro a b _; simp [leftOf]
  | cons x l ih =>
    intro a b h
    have h1 := ih (a - x.c) b (fun y hy => h y (by simp [hy]))
    have h2 := h x (by simp)
    have e : leftOf a (x :: l) = leftOf (a - x.c) l := rfl
    rw [e]
    simp only [List.length_cons, Int.natCast_add, Int.natCast_one, Int.mul_add, Int.mul_one]
    omega
theorem leftOf_bounds {a s : Int} {ws : List Int} (ha : 0 ≤ a) (ha2 : a ≤ 1125899906842624) (hs : 0 < s) (hw : ∀ x ∈ ws, 0 ≤ x ∧ x ≤ 1000) (hl : ws.length ≤ 256) (hws : ∀ x ∈ ws, x ≤ s) {pre : List Part} (h : pre <+: partsOf a s ws) :
    -1125899906842624 * 256 ≤ leftOf a pre ∧ leftOf a pre ≤ 1125899906842624 := by
  have h1 := leftOf_low pre a 1125899906842624 (fun x hx => by have := part_bounds2 ha ha2 hs hw hl hws (h.subset hx); omega)
  have h2 := h.length_le
  rw [partsOf_length] at h2
  omega
theorem parts_ne {a s : Int} {ws : List Int} (hs : 0 < sumL 0 ws) : partsOf a s ws ≠ [] := by
  intro e
  have h1 := congrArg List.length e
  rw [partsOf_length] at h1
  have h2 := sumL_nil ws
  simp at h1
  subst h1
  simp [sumL] at hs
/-- A sorted order of parts. -/
def sortR (d d' : List Part) : Prop := d'.Perm d ∧ d'.Pairwise fun p q => ahead q p = false
theorem parts_nodup (a s : Int) (ws : List Int) : ((partsOf a s ws).map (·.i)).Nodup := by
  have : (partsOf a s ws).map (·.i) = (List.range ws.length).map fun k : Nat => (k : Int) := by
    simp only [partsOf, List.map_map]; rfl
  rw [this]
  exact List.Pairwise.map _ (fun a b h e => h (by omega)) List.nodup_range
theorem sorted_nodup {a s : Int} {ws : List Int} {d : List Part} (h : sortR (partsOf a s ws) d) : (d.map (·.i)).Nodup := (h.1.map _).nodup_iff.2 (parts_nodup a s ws)
theorem nodup_ne {d : List Part} (h : (d.map (·.i)).Nodup) {j k : Nat} {x y : Part} (hj : d[j]? = some x) (hk : d[k]? = some y) (hne : j ≠ k) : x.i ≠ y.i := by
  intro e
  have h1 : (d.map (·.i))[j]? = some x.i := by rw [List.getElem?_map, hj]; rfl
  have h2 : (d.map (·.i))[k]? = some x.i := by rw [List.getElem?_map, hk, e]; rfl
  obtain ⟨l1, e1⟩ := List.getElem?_eq_some_iff.1 h1
  obtain ⟨l2, e2⟩ := List.getElem?_eq_some_iff.1 h2
  have hp := List.pairwise_iff_getElem.1 (show List.Pairwise (· ≠ ·) (d.map (·.i)) from h)
  rcases Nat.lt_or_gt_of_ne hne with h3 | h3
  · exact hp j k l1 l2 h3 (e1.trans e2.symm)
  · exact hp k j l2 l1 h3 (e2.trans e1.symm)
/-- What the first k of the sorted parts have been given. -/
def Filled (L : Int) (d : List Part) (k : Nat) (cs : List Int) : Prop := ∀ j x, j < k → d[j]? = some x → cs[x.i.toNat]? = some (x.c + if (j : Int) < L then 1 else 0)
theorem fill_start (L : Int) (d : List Part) (cs : List Int) : Filled L d 0 cs := fun j x h => absurd h (Nat.not_lt_zero j)
theorem fill_set {L : Int} {d : List Part} {k : Nat} {cs : List Int} (h : Filled L d k cs) (hn : (d.map (·.i)).Nodup) (h0 : ∀ x ∈ d, 0 ≤ x.i) {x : Part} (hx : d[k]? = some x) (v : Int) : Filled L d k (cs.set x.i.toNat v) := by
  intro j y hj hy
  have hne := nodup_ne hn hy hx (by omega)
  have h1 := h0 x (List.mem_of_getElem? hx)
  have h2 := h0 y (List.mem_of_getElem? hy)
  rw [List.getElem?_set_ne (by omega)]
  exact h j y hj hy
theorem fill_put {L : Int} {d : List Part} {k : Nat} {cs : List Int} (h : Filled L d k cs) {x : Part} (hx : d[k]? = some x) (hc : cs[x.i.toNat]? = some (x.c + if (k : Int) < L then 1 else 0)) : Filled L d (k + 1) cs := by
  intro j y hj hy
  by_cases e : j = k
  · subst e; rw [hx] at hy; cases hy; exact hc
  · exact h j y (by omega) hy
theorem sorted_mem {a s : Int} {ws : List Int} {d : List Part} (h : sortR (partsOf a s ws) d) {x : Part} (hx : x ∈ d) : 0 ≤ x.i ∧ x.i < ws.length := by
  have := h.1.mem_iff.1 hx
  simp only [partsOf, List.mem_map, List.mem_range] at this
  obtain ⟨k, hk, rfl⟩ := this
  simp only [partAt]; omega
theorem fill_more {a s L : Int} {ws : List Int} {d : List Part} {k : Nat} {cs : List Int} (h : Filled L d k cs) (hR : sortR (partsOf a s ws) d) {x : Part} (hx : d[k]? = some x) (hc : cs.length = 256) (hl : ws.length ≤ 256) (hk : (k : Int) < L) :
    Filled L d (k + 1) ((cs.set x.i.toNat x.c).set x.i.toNat (x.c + 1)) := by
  have hb := sorted_mem hR (List.mem_of_getElem? hx)
  have hn := sorted_nodup hR
  refine fill_put (fill_set (fill_set h hn (fun y hy => (sorted_mem hR hy).1) hx _) hn (fun y hy => (sorted_mem hR hy).1) hx _) hx ?_
  rw [List.getElem?_set_self (by rw [List.length_set]; omega), if_pos hk]
theorem fill_less {a s L : Int} {ws : List Int} {d : List Part} {k : Nat} {cs : List Int} (h : Filled L d k cs) (hR : sortR (partsOf a s ws) d) {x : Part} (hx : d[k]? = some x) (hc : cs.length = 256) (hl : ws.length ≤ 256) (hk : ¬ (k : Int) < L) :
    Filled L d (k + 1) (cs.set x.i.toNat x.c) := by
  have hb := sorted_mem hR (List.mem_of_getElem? hx)
  refine fill_put (fill_set h (sorted_nodup hR) (fun y hy => (sorted_mem hR hy).1) hx _) hx ?_
  rw [List.getElem?_set_self (by omega), if_neg hk, Int.add_zero]
/-- A part's place in a sorted order is its rank. -/
theorem rank_at {d0 d : List Part} (hR : sortR d0 d) (hn : (d.map (·.i)).Nodup) {j : Nat} {x : Part} (hx : d[j]? = some x) : rank d0 x = j := by
  unfold rank
  rw [← hR.1.countP_eq]
  obtain ⟨hlt, rfl⟩ := List.getElem?_eq_some_iff.1 hx
  have hp := List.pairwise_iff_getElem.1 hR.2
  have e : d = d.take j ++ (d[j] :: d.drop (j + 1)) := by rw [← List.drop_eq_getElem_cons hlt, List.take_append_drop]
  have h1 : (d.take j).countP (fun q => ahead q d[j]) = j := by
    rw [List.countP_eq_length.2, List.length_take, Nat.min_eq_left (by omega)]
    intro y hy
    obtain ⟨i, hi, rfl⟩ := List.mem_iff_getElem.1 hy
    have hi' : i < j := by rw [List.length_take] at hi; omega
    rw [List.getElem_take]
    have h2 := hp i j (by omega) hlt hi'
    have h3 := nodup_ne hn (List.getElem?_eq_getElem (show i < d.length by omega)) (List.getElem?_eq_getElem hlt) (by omega)
    simp only [ahead, Bool.or_eq_false_iff, Bool.and_eq_false_iff, decide_eq_false_iff_not, Bool.or_eq_true, Bool.and_eq_true, decide_eq_true_eq] at h2 ⊢
    omega
  have h4 : (d.drop (j + 1)).countP (fun q => ahead q d[j]) = 0 := by
    rw [List.countP_eq_zero]
    intro y hy
    obtain ⟨i, hi, rfl⟩ := List.mem_iff_getElem.1 hy
    rw [List.getElem_drop]
    rw [List.length_drop] at hi
    have h2 := hp j (j + 1 + i) hlt (by omega) (by omega)
    simp [h2]
  have h5 : ahead d[j] d[j] = false := by simp [ahead]
  have h6 : d.countP (fun q => ahead q d[j]) = (d.take j ++ (d[j] :: d.drop (j + 1))).countP (fun q => ahead q d[j]) := congrArg (List.countP _) e
  rw [h6, List.countP_append, List.countP_cons, h1, h4, h5]
  simp
theorem filled_end {a s : Int} {ws : List Int} {d : List Part} {k : Nat} {cs : List Int} (h : Filled (leftOf a (partsOf a s ws)) d k cs) (hR : sortR (partsOf a s ws) d) (hc : cs.length = 256) (hl : ws.length ≤ 256) (hk : d.length ≤ k) : cs.take ws.length = splitW a s ws := by
  apply List.ext_getElem?
  intro i
  rw [List.getElem?_take]
  split
  · rename_i hi
    have hpi : (partsOf a s ws)[i]? = some (partAt a s ws i) := by
      rw [partsOf, List.getElem?_map, List.getElem?_range hi]; rfl
    obtain ⟨j, hj, hje⟩ := List.mem_iff_getElem.1 (hR.1.mem_iff.2 (List.mem_of_getElem? hpi))
    have hdj : d[j]? = some (partAt a s ws i) := by rw [List.getElem?_eq_getElem hj, hje]
    have h1 := h j _ (by omega) hdj
    have h2 : (partAt a s ws i).i.toNat = i := by simp [partAt]
    rw [h2] at h1
    rw [h1, splitW, List.getElem?_map, hpi, Option.map_some, rank_at hR (sorted_nodup hR) hdj]
  · rename_i hi
    rw [splitW, List.getElem?_map, List.getElem?_eq_none (by rw [partsOf_length]; omega)]; rfl
end Go.Proofs.Ytpkbecaailhhmaa

/-
  The plain law of the reference's Split: choosing the greatest rest, again and again, follows the ranks. Conditions: those of each theorem.
-/
set_option linter.unusedVariables false
set_option linter.unusedSimpArgs false
namespace Go.Proofs.Ytpkbecaailhhmaa
open Go.DL
def outM (ps : List Part) (m : Nat) : List Int := ps.map fun p => p.c + if rank ps p < m then 1 else 0
def restM (ps : List Part) (m : Nat) : List Int := ps.map fun p => if rank ps p < m then -1 else p.r
def Best (r : List Int) (i b : Nat) : Prop := ∀ y, r[b]? = some y → ∀ j z, j < i → r[j]? = some z → z ≤ y ∧ (j < b → z < y)
/-- There is a sorted order. -/
theorem sorted_is (ps : List Part) : ∃ d, sortR ps d := by
  refine ⟨ps.mergeSort (fun p q => !ahead q p), List.mergeSort_perm _ _, ?_⟩
  have := List.pairwise_mergeSort (le := fun p q : Part => !ahead q p) (fun a b c h1 h2 => by
    simp only [Bool.not_eq_true', ahead, Bool.or_eq_false_iff, Bool.and_eq_false_iff, decide_eq_false_iff_not] at *; omega) (fun a b => by
    simp only [Bool.or_eq_true, Bool.not_eq_true', ahead, Bool.or_eq_false_iff, Bool.and_eq_false_iff, decide_eq_false_iff_not]; omega) ps
  exact this.imp fun h => by simpa using h
theorem part_get {a s : Int} {ws : List Int} {k : Nat} {x : Int} (h : ws[k]? = some x) : (partsOf a s ws)[k]? = some ⟨k, (a * x).tdiv s, (a * x).tmod s⟩ := by
  obtain ⟨hlt, he⟩ := List.getElem?_eq_some_iff.1 h
  rw [partsOf, List.getElem?_map, List.getElem?_range hlt, Option.map_some, partAt, List.getD, h]; rfl
/-- Σ of the rests. -/
theorem left_eq (a s : Int) (hs : s ≠ 0) : ∀ (l : List Int) (k : Nat) (L : Int) (ps : List Part), (∀ x ∈ l, 0 ≤ a * x) → 0 < s → ps = (l.zipIdx k).map (fun x => (⟨x.2, (a * x.1).tdiv s, (a * x.1).tmod s⟩ : Part)) →
    leftOf L ps * s = L * s - a * sumL 0 l + (ps.map (·.r)).foldr (· + ·) 0 := by
  intro l
  induction l with
  | nil => intro k L ps _ _ h; subst h; simp [leftOf, sumL]
  | cons x l ih =>
    intro k L ps hx hs0 h
    subst h
    have h1 := ih (k + 1) (L - (a * x).tdiv s) _ (fun y hy => hx y (by simp [hy])) hs0 rfl
    have e1 : sumL 0 (x :: l) = sumL 0 l + x := by simp only [sumL]; exact sumL_add l 0 x
    have e2 : leftOf L (((x :: l).zipIdx k).map fun x => (⟨x.2, (a * x.1).tdiv s, (a * x.1).tmod s⟩ : Part)) = leftOf (L - (a * x).tdiv s) ((l.zipIdx (k + 1)).map fun x => (⟨x.2, (a * x.1).tdiv s, (a * x.1).tmod s⟩ : Part)) := rfl
    rw [e2, h1, e1]
    simp only [List.zipIdx_cons, List.map_cons, List.foldr_cons]
    have h2 := Int.mul_tdiv_add_tmod (a * x) s
    rw [Int.sub_mul, Int.mul_add]
    have h3 : s * (a * x).tdiv s = (a * x).tdiv s * s := Int.mul_comm _ _
    omega
theorem partsOf_zip (a s : Int) (ws : List Int) : partsOf a s ws = (ws.zipIdx 0).map (fun x => (⟨x.2, (a * x.1).tdiv s, (a * x.1).tmod s⟩ : Part)) := by
  apply List.ext_getElem?
  intro k
  cases h : ws[k]? with
  | none =>
    have : ws.length ≤ k := List.getElem?_eq_none_iff.1 h
    rw [List.getElem?_eq_none (by rw [partsOf_length]; exact this), List.getElem?_eq_none (by simp; exact this)]
  | some x => rw [part_get h, List.getElem?_map, List.getElem?_zipIdx, h]; simp
/-- What is left is less than there are parts; and what it comes to. -/
theorem left_spec {a s : Int} {ws : List Int} (ha : 0 ≤ a) (hs : 0 < s) (hw : ∀ x ∈ ws, 0 ≤ x) (hss : s = sumL 0 ws) : leftOf a (partsOf a s ws) * s = ((partsOf a s ws).map (·.r)).foldr (· + ·) 0 := by
  have h := left_eq a s (by omega) ws 0 a (partsOf a s ws) (fun x hx => Int.mul_nonneg ha (hw x hx)) hs (partsOf_zip a s ws)
  rw [← hss] at h
  omega
theorem sum_rests {s : Int} : ∀ l : List Int, (∀ x ∈ l, 0 ≤ x ∧ x < s) → 0 ≤ l.foldr (· + ·) 0 ∧ l.foldr (· + ·) 0 ≤ (l.length : Int) * (s - 1)
  | [], _ => by simp
  | x :: l, h => by
    have h1 := sum_rests l fun y hy => h y (by simp [hy])
    have h2 := h x (by simp)
    simp only [List.foldr_cons, List.length_cons, Int.natCast_add, Int.natCast_one, Int.add_mul, Int.one_mul]
    omega
theorem rest_bounds {a s : Int} {ws : List Int} (ha : 0 ≤ a) (hs : 0 < s) (hw : ∀ x ∈ ws, 0 ≤ x) {p : Part} (hp : p ∈ partsOf a s ws) : 0 ≤ p.r ∧ p.r < s := by
  simp only [partsOf, List.mem_map, List.mem_range] at hp
  obtain ⟨k, hk, rfl⟩ := hp
  have h2 : 0 ≤ a * ws.getD k 0 := Int.mul_nonneg ha (hw _ (getD_mem hk))
  simp only [partAt]
  rw [Int.tmod_eq_emod_of_nonneg h2]
  exact ⟨Int.emod_nonneg _ (by omega), Int.emod_lt_of_pos _ hs⟩
theorem left_range {a s : Int} {ws : List Int} (ha : 0 ≤ a) (hs : 0 < s) (hw : ∀ x ∈ ws, 0 ≤ x) (hss : s = sumL 0 ws) : 0 ≤ leftOf a (partsOf a s ws) ∧ (0 < leftOf a (partsOf a s ws) → leftOf a (partsOf a s ws) < (ws.length : Int)) := by
  have h := left_spec ha hs hw hss
  have h1 := sum_rests (s := s) ((partsOf a s ws).map (·.r)) fun x hx => by
    obtain ⟨p, hp, rfl⟩ := List.mem_map.1 hx
    exact rest_bounds ha hs hw hp
  rw [List.length_map, partsOf_length] at h1
  generalize leftOf a (partsOf a s ws) = L at h
  rw [← h] at h1
  refine ⟨?_, fun hL => ?_⟩
  · apply Int.not_lt.1
    intro hn
    have : L * s < 0 := Int.mul_neg_of_neg_of_pos hn hs
    omega
  · apply Int.not_le.1
    intro hn
    have h3 : (ws.length : Int) * s ≤ L * s := Int.mul_le_mul_of_nonneg_right hn (Int.le_of_lt hs)
    have h4 : (ws.length : Int) * (s - 1) = (ws.length : Int) * s - ws.length := by rw [Int.mul_sub, Int.mul_one]
    have h5 : 0 < ws.length := by
      rcases Nat.eq_zero_or_pos ws.length with e | e
      · have := sumL_nil ws; omega
      · exact e
    omega
end Go.Proofs.Ytpkbecaailhhmaa

/-
  The plain data of the payments of a fee: shares, and what each club gets. Conditions: those of each theorem.
-/
set_option linter.unusedVariables false
set_option linter.unusedSimpArgs false
namespace Go.Proofs.Ytpkbecaailhhmaa
open Go.DL
def pickPos : List Train → List Int → List Pay
  | t :: ts, n :: ns => if n > 0 then ⟨t.c, n⟩ :: pickPos ts ns else pickPos ts ns
  | _, _ => []
def wsOf (f : Fee) : List Int := f.t.map (·.s)
def partsF (f : Fee) : List Int := splitW (solid f) (sumL 0 (wsOf f)) (wsOf f)
def shares (f : Fee) : List Pay := if chk f ≠ 0 then [] else pickPos f.t (partsF f)
structure SplitPre (a : Int) (ws : List Int) : Prop where
  ha : 0 ≤ a
  ha2 : a ≤ 1125899906842624
  hw : ∀ x ∈ ws, 0 ≤ x ∧ x ≤ 1000
  hl : ws.length ≤ 256
  hs : 0 < sumL 0 ws
theorem trOK_all {p : Int} {l : List Train} (h : trOK p l = true) : ∀ t ∈ l, 0 ≤ t.c ∧ t.c < 192 ∧ 1 ≤ t.s ∧ t.s ≤ 12 ∧ p < t.c := by
  induction l generalizing p with
  | nil => intro t ht; cases ht
  | cons x l ih =>
    intro t ht
    rw [trOK] at h
    split at h
    · cases h
    · rcases List.mem_cons.1 ht with rfl | ht
      · omega
      · have := ih h t ht; omega
theorem split_pre {f : Fee} (h : chk f = 0) (hn : f.t.length ≠ 0) : SplitPre (solid f) (wsOf f) := by
  have hb := solid_bounds f h
  rcases chk_cases f with hc | ⟨_, hh, ht⟩
  · omega
  have hall := trOK_all ht
  have h1 : ∀ x ∈ wsOf f, 1 ≤ x ∧ x ≤ 12 := fun x hx => by
    obtain ⟨t, ht, rfl⟩ := List.mem_map.1 hx
    have := hall t ht; omega
  refine ⟨hb.1, by omega, fun x hx => by have := h1 x hx; omega, by unfold headOK at hh; simp only [wsOf, List.length_map]; omega, ?_⟩
  cases e : f.t with
  | nil => rw [e] at hn; exact absurd rfl hn
  | cons x l =>
    have h2 : x.s ∈ wsOf f := by simp [wsOf, e]
    have h3 := le_sumL (l := wsOf f) (fun y hy => by have := h1 y hy; omega) h2
    have := h1 _ h2
    omega
theorem splitW_length (a s : Int) (ws : List Int) : (splitW a s ws).length = ws.length := by simp [splitW, partsOf_length]
theorem partsF_length (f : Fee) : (partsF f).length = f.t.length := by rw [partsF, splitW_length, wsOf, List.length_map]
theorem pick_yes {f : Fee} {P : List Int} {o : List Pay} {k : Nat} {x : Train} {n : Int} (iv : o ++ pickPos (f.t.drop k) (P.drop k) = pickPos f.t P) (h1 : f.t[k]? = some x) (h2 : P[k]? = some n) (h : n > 0) : (o ++ [(⟨x.c, n⟩ : Pay)]) ++ pickPos (f.t.drop (k + 1)) (P.drop (k + 1)) = pickPos f.t P := by
  rw [← iv, drop_cons h1, drop_cons h2, pickPos, if_pos h]; simp
theorem pick_no {f : Fee} {P : List Int} {o : List Pay} {k : Nat} {x : Train} {n : Int} (iv : o ++ pickPos (f.t.drop k) (P.drop k) = pickPos f.t P) (h1 : f.t[k]? = some x) (h2 : P[k]? = some n) (h : ¬ n > 0) : o ++ pickPos (f.t.drop (k + 1)) (P.drop (k + 1)) = pickPos f.t P := by
  rw [← iv, drop_cons h1, drop_cons h2, pickPos, if_neg h]
theorem pick_end {f : Fee} {P : List Int} {o : List Pay} {k : Nat} (iv : o ++ pickPos (f.t.drop k) (P.drop k) = pickPos f.t P) (h : P.length ≤ k) : o = pickPos f.t P := by
  rw [← iv, List.drop_eq_nil_of_le h]
  cases f.t.drop k <;> simp [pickPos]
theorem shares_nil {f : Fee} (h : f.t.length = 0) : shares f = [] := by
  rw [shares]; split
  · rfl
  · cases e : f.t with
    | nil => rfl
    | cons x l => rw [e] at h; simp at h
theorem shares_bad {f : Fee} (h : chk f ≠ 0) : shares f = [] := by rw [shares, if_pos h]
theorem shares_is {f : Fee} {w : List Int} (h : chk f = 0) (hw : w = wsOf f) : pickPos f.t (splitW (solid f) (sumL 0 w) w) = shares f := by rw [shares, if_neg (by omega), hw]; rfl
theorem pickPos_len (l : List Train) : ∀ P : List Int, (pickPos l P).length ≤ l.length := by
  induction l with
  | nil => intro P; simp [pickPos]
  | cons x l ih =>
    intro P
    cases P with
    | nil => simp [pickPos]
    | cons n P =>
      rw [pickPos]; have := ih P
      split <;> simp only [List.length_cons] <;> omega
theorem chk_len {f : Fee} (h : chk f = 0) : f.t.length ≤ 40 := by
  rcases chk_cases f with hc | ⟨_, hh, ht⟩
  · omega
  · unfold headOK at hh; omega
theorem shares_len (f : Fee) : (shares f).length ≤ 40 := by
  rw [shares]; split
  · exact Nat.zero_le _
  · have := pickPos_len f.t (partsF f)
    have := chk_len (f := f) (by omega)
    omega
theorem splitW_bounds {a : Int} {ws : List Int} (h : SplitPre a ws) : ∀ x ∈ splitW a (sumL 0 ws) ws, 0 ≤ x ∧ x ≤ 1125899906842625 := by
  intro x hx
  simp only [splitW, List.mem_map] at hx
  obtain ⟨p, hp, rfl⟩ := hx
  have := part_bounds2 h.ha h.ha2 h.hs h.hw h.hl (fun x hx => le_sumL (fun y hy => (h.hw y hy).1) hx) hp
  split <;> omega
theorem pickPos_mem {l : List Train} : ∀ {P : List Int} {p : Pay}, p ∈ pickPos l P → (∃ t ∈ l, t.c = p.c) ∧ p.a ∈ P ∧ 0 < p.a := by
  induction l with
  | nil => intro P p h; simp [pickPos] at h
  | cons x l ih =>
    intro P p h
    cases P with
    | nil => simp [pickPos] at h
    | cons n P =>
      rw [pickPos] at h
      split at h
      · rename_i hn
        rcases List.mem_cons.1 h with rfl | h
        · exact ⟨⟨x, by simp, rfl⟩, by simp, hn⟩
        · obtain ⟨⟨t, ht, e⟩, h2, h3⟩ := ih h; exact ⟨⟨t, by simp [ht], e⟩, by simp [h2], h3⟩
      · obtain ⟨⟨t, ht, e⟩, h2, h3⟩ := ih h; exact ⟨⟨t, by simp [ht], e⟩, by simp [h2], h3⟩
theorem shares_mem {f : Fee} {p : Pay} (h : p ∈ shares f) : 0 ≤ p.c ∧ p.c < 192 ∧ 0 < p.a ∧ p.a ≤ 1125899906842625 := by
  rw [shares] at h
  split at h
  · cases h
  · rename_i hc
    have hc0 : chk f = 0 := by omega
    obtain ⟨⟨t, ht, e⟩, h2, h3⟩ := pickPos_mem h
    rcases chk_cases f with h4 | ⟨_, hh, htr⟩
    · omega
    have h5 := trOK_all htr t ht
    have hn : f.t.length ≠ 0 := by intro e; cases hl : f.t with
      | nil => rw [hl] at ht; cases ht
      | cons x l => rw [hl] at e; simp at e
    have h6 := splitW_bounds (split_pre hc0 hn) _ h2
    omega

/-! ### what a club gets of a list -/
def tot (c : Int) : List Pay → Int
  | [] => 0
  | p :: l => (if p.c = c then p.a else 0) + tot c l
def sumA : List Pay → Int
  | [] => 0
  | p :: l => p.a + sumA l
def allP (f : Fee) (s : Int) : List Pay := shares f ++ [(⟨f.m, (profit f).1⟩ : Pay)] ++ [(⟨s, f.a - sumA (shares f) - (profit f).1⟩ : Pay)]
def payOf (L : List Pay) (c : Int) : Option Pay := if tot c L > 0 then some ⟨c, tot c L⟩ else none
def payList (L : List Pay) : List Pay := (List.range 192).filterMap fun c => payOf L (c : Nat)
def pays (f : Fee) (s : Int) : List Pay := if chk f ≠ 0 then [] else if s < 0 ∨ s ≥ 192 then [] else payList (allP f s)
def paysE (f : Fee) (s : Int) : Int := if chk f ≠ 0 then chk f else if s < 0 ∨ s ≥ 192 then 1 else 0
theorem tot_append (c : Int) (a b : List Pay) : tot c (a ++ b) = tot c a + tot c b := by
  induction a with
  | nil => simp [tot]
  | cons x a ih => simp only [List.cons_append, tot, ih]; omega
theorem sumA_append (a b : List Pay) : sumA (a ++ b) = sumA a + sumA b := by
  induction a with
  | nil => simp [sumA]
  | cons x a ih => simp only [List.cons_append, sumA, ih]; omega
theorem take_le {α : Type} {l : List α} {k : Nat} {n : Nat} (h : l.length ≤ n) : (l.take k).length ≤ n := by rw [List.length_take]; omega
theorem tot_bounds {l : List Pay} (c : Int) (h : ∀ p ∈ l, 0 ≤ p.a) : 0 ≤ tot c l ∧ tot c l ≤ sumA l := by
  induction l with
  | nil => simp [sumA, tot]
  | cons x l ih =>
    have h1 := ih fun p hp => h p (by simp [hp])
    have h2 := h x (by simp)
    simp only [sumA, tot]
    split <;> omega
theorem sumA_snoc {l : List Pay} {k : Nat} {x : Pay} (h : l[k]? = some x) : sumA (l.take (k + 1)) = sumA (l.take k) + x.a := by
  rw [take_snoc h, sumA_append]; simp [sumA]
end Go.Proofs.Ytpkbecaailhhmaa

/-
  Bounds of the payments of a fee, and the steps of the loops that reckon them. Conditions: those of each theorem.
-/
set_option linter.unusedVariables false
set_option linter.unusedSimpArgs false
namespace Go.Proofs.Ytpkbecaailhhmaa
open Go.DL
theorem profit_bounds {f : Fee} : 0 ≤ (profit f).1 ∧ (profit f).1 ≤ 1125899906842624 := by
  unfold profit
  split
  · simp
  · split
    · simp
    · rename_i h1 h2
      have hb := solid_bounds f (by omega)
      rw [partM, if_neg (by omega), if_neg (by omega)]
      show 0 ≤ ((f.a - solid f - f.p) * f.s).tdiv 1000 ∧ ((f.a - solid f - f.p) * f.s).tdiv 1000 ≤ 1125899906842624
      have h3 : 0 ≤ (f.a - solid f - f.p) * f.s := Int.mul_nonneg (by omega) (by omega)
      have h4 : (f.a - solid f - f.p) * f.s ≤ (f.a - solid f - f.p) * 1000 := Int.mul_le_mul_of_nonneg_left (by omega) (by omega)
      rw [Int.tdiv_eq_ediv_of_nonneg h3]
      omega
theorem profit_rest {f : Fee} (h : chk f = 0) : (profit f).1 ≤ f.a - solid f ∨ (profit f).1 = 0 := by
  unfold profit
  split
  · exact .inr rfl
  · split
    · exact .inr rfl
    · rename_i h1 h2
      have hb := solid_bounds f (by omega)
      rw [partM, if_neg (by omega), if_neg (by omega)]
      show ((f.a - solid f - f.p) * f.s).tdiv 1000 ≤ f.a - solid f ∨ _
      have h3 : 0 ≤ (f.a - solid f - f.p) * f.s := Int.mul_nonneg (by omega) (by omega)
      have h4 : (f.a - solid f - f.p) * f.s ≤ (f.a - solid f - f.p) * 1000 := Int.mul_le_mul_of_nonneg_left (by omega) (by omega)
      rw [Int.tdiv_eq_ediv_of_nonneg h3]
      omega
theorem profit_none {f : Fee} (h : f.m < 0) : (profit f).1 = 0 := by
  unfold profit
  split
  · rfl
  · rw [if_pos (.inl h)]
theorem profit_err {f : Fee} (h : chk f = 0) : (profit f).2 = 0 := by
  have hb := solid_bounds f h
  unfold profit
  rw [if_neg (by omega)]
  split
  · rfl
  · exact partM_two (by omega) (by omega) (by omega) (by omega)
def SmallL (l : List Pay) (n : Nat) (B : Int) : Prop := l.length ≤ n ∧ ∀ p ∈ l, -B ≤ p.a ∧ p.a ≤ B
theorem abs_sum {B : Int} (hB : 0 ≤ B) : ∀ {l : List Pay}, (∀ p ∈ l, -B ≤ p.a ∧ p.a ≤ B) → -(l.length * B) ≤ sumA l ∧ sumA l ≤ l.length * B
  | [], _ => by simp [sumA]
  | x :: l, h => by
    have h1 := abs_sum hB (l := l) fun p hp => h p (by simp [hp])
    have h2 := h x (by simp)
    simp only [sumA, List.length_cons, Int.natCast_add, Int.natCast_one, Int.add_mul, Int.one_mul]
    omega
theorem abs_tot {B : Int} (hB : 0 ≤ B) (c : Int) : ∀ {l : List Pay}, (∀ p ∈ l, -B ≤ p.a ∧ p.a ≤ B) → -(l.length * B) ≤ tot c l ∧ tot c l ≤ l.length * B
  | [], _ => by simp [tot]
  | x :: l, h => by
    have h1 := abs_tot hB c (l := l) fun p hp => h p (by simp [hp])
    have h2 := h x (by simp)
    simp only [tot, List.length_cons, Int.natCast_add, Int.natCast_one, Int.add_mul, Int.one_mul]
    split <;> omega
theorem small_sum {l : List Pay} {n : Nat} {B : Int} (hB : 0 ≤ B) (h : SmallL l n B) (k : Nat) : -(n * B) ≤ sumA (l.take k) ∧ sumA (l.take k) ≤ n * B := by
  have h1 := abs_sum hB (l := l.take k) fun p hp => h.2 p (List.mem_of_mem_take hp)
  have h2 : ((l.take k).length : Int) * B ≤ n * B := Int.mul_le_mul_of_nonneg_right (by have := take_le (k := k) h.1; omega) hB
  omega
theorem small_tot {l : List Pay} {n : Nat} {B : Int} (hB : 0 ≤ B) (h : SmallL l n B) (c : Int) (k : Nat) : -(n * B) ≤ tot c (l.take k) ∧ tot c (l.take k) ≤ n * B := by
  have h1 := abs_tot hB c (l := l.take k) fun p hp => h.2 p (List.mem_of_mem_take hp)
  have h2 : ((l.take k).length : Int) * B ≤ n * B := Int.mul_le_mul_of_nonneg_right (by have := take_le (k := k) h.1; omega) hB
  omega
def B0 : Int := 1125899906842625
theorem small1 (f : Fee) : SmallL (shares f ++ [(⟨f.m, (profit f).1⟩ : Pay)]) 41 1125899906842625 := by
  refine ⟨by have := shares_len f; simp; omega, fun p hp => ?_⟩
  rcases List.mem_append.1 hp with h | h
  · have := shares_mem h; omega
  · have h2 := profit_bounds (f := f)
    simp at h; subst h; dsimp only; omega
theorem small2 {f : Fee} {s r : Int} (h1 : -56294995342131250 ≤ r) (h2 : r ≤ 56294995342131250) : SmallL (shares f ++ [(⟨f.m, (profit f).1⟩ : Pay)] ++ [(⟨s, r⟩ : Pay)]) 42 56294995342131250 := by
  refine ⟨by have := (small1 f).1; simp at this ⊢; omega, fun p hp => ?_⟩
  rcases List.mem_append.1 hp with h | h
  · have := (small1 f).2 p h; omega
  · simp at h; subst h; exact ⟨h1, h2⟩
theorem payList_len (L : List Pay) : (payList L).length ≤ 192 := by
  unfold payList
  have := List.length_filterMap_le (fun c : Nat => payOf L c) (List.range 192)
  simpa using this
theorem pays_len (f : Fee) (s : Int) : (pays f s).length ≤ 192 := by
  unfold pays
  split
  · simp
  · split
    · simp
    · exact payList_len _
end Go.Proofs.Ytpkbecaailhhmaa

/-
  The map of sums that Payments keeps: sorted, and what each club gets. Conditions: those of each theorem.
-/
set_option linter.unusedVariables false
set_option linter.unusedSimpArgs false
namespace Go.Proofs.Ytpkbecaailhhmaa
open Go.DL
theorem minsert_mem {x y : Int × Int} : ∀ {l : List (Int × Int)}, y ∈ minsert x l ↔ y = x ∨ y ∈ l
  | [] => by simp [minsert]
  | z :: l => by
    unfold minsert
    split
    · simp
    · simp only [List.mem_cons, minsert_mem (l := l)]
      constructor
      · rintro (h | h | h) <;> simp [h]
      · rintro (h | h | h) <;> simp [h]
theorem minsert_sorted {x : Int × Int} : ∀ {l : List (Int × Int)}, (l.map (·.1)).Pairwise (· < ·) → (∀ y ∈ l, y.1 ≠ x.1) → ((minsert x l).map (·.1)).Pairwise (· < ·)
  | [], _, _ => by simp [minsert]
  | z :: l, h, hn => by
    rw [List.map_cons, List.pairwise_cons] at h
    unfold minsert
    split
    · rename_i hlt
      rw [List.map_cons, List.map_cons, List.pairwise_cons, List.pairwise_cons]
      refine ⟨fun a ha => ?_, h⟩
      rcases List.mem_cons.1 ha with rfl | ha
      · exact hlt
      · have := h.1 a ha; omega
    · rename_i hlt
      rw [List.map_cons, List.pairwise_cons]
      refine ⟨fun a ha => ?_, minsert_sorted h.2 fun y hy => hn y (by simp [hy])⟩
      obtain ⟨y, hy, rfl⟩ := List.mem_map.1 ha
      have hz := hn z (by simp)
      rcases minsert_mem.1 hy with rfl | hy
      · omega
      · exact h.1 _ (List.mem_map.2 ⟨y, hy, rfl⟩)
theorem minsert_get {x : Int × Int} (c : Int) : ∀ {l : List (Int × Int)}, (∀ y ∈ l, y.1 ≠ x.1) → mget (minsert x l) c = if x.1 = c then x.2 else mget l c
  | [], _ => by simp [minsert, mget]
  | z :: l, hn => by
    have hz := hn z (by simp)
    unfold minsert
    split
    · simp [mget]
    · rw [mget, minsert_get c fun y hy => hn y (by simp [hy]), mget]
      by_cases h1 : z.1 = c
      · rw [if_pos h1, if_pos h1, if_neg (by omega)]
      · rw [if_neg h1, if_neg h1]
theorem filter_get {l : List (Int × Int)} {a c : Int} (h : a ≠ c) : mget (l.filter fun p => !(p.1 == a)) c = mget l c := by
  induction l with
  | nil => rfl
  | cons z l ih =>
    rw [List.filter_cons]
    by_cases h1 : z.1 = a
    · have : z.1 ≠ c := by omega
      simp only [h1, beq_self_eq_true, Bool.not_true, Bool.false_eq_true, if_false]
      rw [ih, mget, if_neg this]
    · have : (z.1 == a) = false := by simpa using h1
      simp only [this, Bool.not_false, if_true]
      rw [mget, mget, ih]
theorem filter_ne {l : List (Int × Int)} {a : Int} : ∀ y ∈ l.filter (fun p => !(p.1 == a)), y.1 ≠ a := by
  intro y hy
  have := (List.mem_filter.1 hy).2
  simpa using this
theorem mput_get (l : List (Int × Int)) (a v c : Int) : mget (mput l a v) c = if a = c then v else mget l c := by
  rw [mput, minsert_get c (by exact filter_ne)]
  by_cases h : a = c
  · rw [if_pos h, if_pos h]
  · rw [if_neg h, if_neg h, filter_get h]
theorem mput_sorted {l : List (Int × Int)} (a v : Int) (h : (l.map (·.1)).Pairwise (· < ·)) : ((mput l a v).map (·.1)).Pairwise (· < ·) :=
  minsert_sorted (h.sublist (List.filter_sublist.map _)) (by exact filter_ne)
theorem mput_mem {l : List (Int × Int)} {a v : Int} {y : Int × Int} (h : y ∈ mput l a v) : y.1 = a ∨ y ∈ l := by
  rcases minsert_mem.1 h with rfl | h
  · exact .inl rfl
  · exact .inr (List.mem_filter.1 h).1
theorem minsert_len (x : Int × Int) : ∀ l : List (Int × Int), (minsert x l).length = l.length + 1
  | [] => rfl
  | z :: l => by
    unfold minsert
    split
    · rfl
    · rw [List.length_cons, minsert_len x l, List.length_cons]
theorem mput_len (l : List (Int × Int)) (a v : Int) : (mput l a v).length ≤ l.length + 1 := by
  rw [mput, minsert_len]
  have := List.length_filter_le (fun p : Int × Int => !(p.1 == a)) l
  omega
/-- A sorted map that holds what each club gets of a list. -/
structure MP (m : List (Int × Int)) (L : List Pay) : Prop where
  sorted : (m.map (·.1)).Pairwise (· < ·)
  get : ∀ c, mget m c = tot c L
  mem : ∀ x ∈ m, ∃ p ∈ L, p.c = x.1
  len : m.length ≤ L.length
theorem MP_nil : MP [] [] := ⟨by simp, fun c => rfl, by simp, Nat.le_refl _⟩
theorem MP_put {m : List (Int × Int)} {L : List Pay} {p : Pay} (h : MP m L) : MP (mput m p.c (mget m p.c + p.a)) (L ++ [p]) := by
  refine ⟨mput_sorted _ _ h.sorted, fun c => ?_, fun x hx => ?_, ?_⟩
  · rw [mput_get, tot_append]
    simp only [tot]
    by_cases e : p.c = c
    · rw [if_pos e, if_pos e, e, h.get]; omega
    · rw [if_neg e, if_neg e, h.get]; omega
  · rcases mput_mem hx with e | hx
    · exact ⟨p, by simp, e.symm⟩
    · obtain ⟨q, hq, e⟩ := h.mem x hx; exact ⟨q, by simp [hq], e⟩
  · have := mput_len m p.c (mget m p.c + p.a)
    have := h.len
    simp; omega
theorem MP_step {m : List (Int × Int)} {L0 L : List Pay} {k : Nat} {p : Pay} (h : MP m (L0 ++ L.take k)) (hx : L[k]? = some p) : MP (mput m p.c (mget m p.c + p.a)) (L0 ++ L.take (k + 1)) := by
  rw [take_snoc hx, ← List.append_assoc]; exact MP_put h
theorem MP_all {m : List (Int × Int)} {L0 L : List Pay} {k : Nat} (h : MP m (L0 ++ L.take k)) (hk : L.length ≤ k) : MP m (L0 ++ L) := by rwa [List.take_of_length_le hk] at h
theorem MP_bounds {m : List (Int × Int)} {L : List Pay} {n : Nat} {B : Int} (h : MP m L) (hB : 0 ≤ B) (hs : SmallL L n B) (c : Int) : -(n * B) ≤ mget m c ∧ mget m c ≤ n * B := by
  rw [h.get]
  have := small_tot hB hs c L.length
  rwa [List.take_of_length_le (Nat.le_refl _)] at this
theorem mget_not {m : List (Int × Int)} {c : Int} (h : c ∉ m.map (·.1)) : mget m c = 0 := by
  induction m with
  | nil => rfl
  | cons z l ih =>
    rw [List.map_cons, List.mem_cons, not_or] at h
    rw [mget, if_neg (fun e => h.1 e.symm), ih h.2]
/-- Both ways of reckoning who gets how much: over the sorted clubs that occur, and over all clubs. -/
theorem keys_pay {m : List (Int × Int)} {L : List Pay} (h : MP m L) (hneg : ∀ p ∈ L, p.c < 192 ∧ (p.c < 0 → p.a = 0)) : (m.map (·.1)).filterMap (payOf L) = payList L := by
  have hmem : ∀ q : Pay, q ∈ (m.map (·.1)).filterMap (payOf L) ↔ q ∈ payList L := by
    intro q
    simp only [payList, List.mem_filterMap, List.mem_range]
    have tneg : ∀ c, c < 0 → tot c L = 0 := fun c hc => by
      clear h
      induction L with
      | nil => rfl
      | cons p l ih =>
        rw [tot, ih fun q hq => hneg q (by simp [hq])]
        have := (hneg p (by simp)).2
        split <;> omega
    constructor
    · rintro ⟨c, hc, he⟩
      obtain ⟨x, hx, rfl⟩ := List.mem_map.1 hc
      obtain ⟨p, hp, e⟩ := h.mem x hx
      have h1 := hneg p hp
      have h2 : 0 ≤ x.1 := by
        refine Int.not_lt.1 fun hn => ?_
        rw [payOf, tneg _ hn] at he
        simp at he
      refine ⟨x.1.toNat, by omega, ?_⟩
      rwa [Int.toNat_of_nonneg h2]
    · rintro ⟨c, hc, he⟩
      refine ⟨(c : Nat), ?_, he⟩
      refine Decidable.byContradiction fun hn => ?_
      rw [payOf, ← h.get, mget_not hn] at he
      simp at he
  have hc : ∀ {c : Int} {q : Pay}, payOf L c = some q → q.c = c := fun {c q} he => by
    unfold payOf at he
    split at he
    · cases he; rfl
    · cases he
  have s1 : ((m.map (·.1)).filterMap (payOf L)).Pairwise fun a b => a.c < b.c :=
    List.Pairwise.filterMap _ (fun a a' hlt b hb b' hb' => by rw [hc hb, hc hb']; exact hlt) h.sorted
  have s2 : (payList L).Pairwise fun a b => a.c < b.c :=
    List.Pairwise.filterMap _ (fun a a' (hlt : a < a') b hb b' hb' => by rw [hc hb, hc hb']; omega) List.pairwise_lt_range
  have n1 : ((m.map (·.1)).filterMap (payOf L)).Nodup := s1.imp fun h e => by subst e; omega
  have n2 : (payList L).Nodup := s2.imp fun h e => by subst e; omega
  exact ((List.perm_ext_iff_of_nodup n1 n2).2 hmem).eq_of_pairwise (fun a b _ _ h1 h2 => by omega) s1 s2
theorem fm_take {ks : List Int} {k : Nat} {x : Int} (g : Int → Option Pay) (h : ks[k]? = some x) : (ks.take (k + 1)).filterMap g = (ks.take k).filterMap g ++ (match g x with | some y => [y] | none => []) := by
  rw [take_snoc h, List.filterMap_append]
  cases e : g x <;> simp [e]
theorem key_yes {m : List (Int × Int)} {L o : List Pay} {k : Nat} {x : Int} (h : MP m L) (io : o = ((m.map (·.1)).take k).filterMap (payOf L)) (hx : (m.map (·.1))[k]? = some x) (hp : mget m x > 0) : o ++ [(⟨x, mget m x⟩ : Pay)] = ((m.map (·.1)).take (k + 1)).filterMap (payOf L) := by
  rw [fm_take _ hx, io, payOf, ← h.get, if_pos hp]
theorem key_no {m : List (Int × Int)} {L o : List Pay} {k : Nat} {x : Int} (h : MP m L) (io : o = ((m.map (·.1)).take k).filterMap (payOf L)) (hx : (m.map (·.1))[k]? = some x) (hp : ¬ mget m x > 0) : o = ((m.map (·.1)).take (k + 1)).filterMap (payOf L) := by
  rw [fm_take _ hx, io, payOf, ← h.get, if_neg hp, List.append_nil]
theorem keys_end {m : List (Int × Int)} {f : Fee} {s : Int} {o : List Pay} {k : Nat} (hc : chk f = 0) (hs : ¬ (s < 0 ∨ s ≥ 192)) (h : MP m (allP f s)) (io : o = ((m.map (·.1)).take k).filterMap (payOf (allP f s))) (hk : (m.map (·.1)).length ≤ k) : pays f s = o := by
  rw [pays, if_neg (by omega), if_neg hs, io, List.take_of_length_le hk, keys_pay h]
  intro p hp
  simp only [allP, List.mem_append, List.mem_singleton] at hp
  rcases hp with (hp | rfl) | rfl
  · have := shares_mem hp; omega
  · dsimp only
    have h1 := @profit_none f
    rcases chk_cases f with h2 | ⟨_, hh, _⟩
    · omega
    · unfold headOK at hh
      exact ⟨by omega, h1⟩
  · dsimp only; omega
theorem small3 {f : Fee} {s : Int} (hc : chk f = 0) : SmallL (allP f s) 42 56294995342131250 := by
  have h1 := small_sum (B := 1125899906842625) (by decide) (small1 f) 100
  have hb := solid_bounds f hc
  rw [List.take_of_length_le (by have := (small1 f).1; omega), sumA_append] at h1
  simp only [sumA] at h1
  exact small2 (by omega) (by omega)
theorem small_pre {L L' : List Pay} {n : Nat} {B : Int} (h : SmallL (L ++ L') n B) : SmallL L n B :=
  ⟨by have := h.1; simp at this; omega, fun p hp => h.2 p (by simp [hp])⟩
theorem small_take {L L' : List Pay} {n : Nat} {B : Int} (h : SmallL (L ++ L') n B) (k : Nat) : SmallL (L ++ L'.take k) n B :=
  ⟨by have := h.1; simp only [List.length_append, List.length_take] at this ⊢; omega, fun p hp => h.2 p (by rcases List.mem_append.1 hp with h | h; simp [h]; simp [List.mem_of_mem_take h])⟩
theorem rest_two {f : Fee} {r1 r2 : Int} {k1 k2 : Nat} (h1 : r1 = f.a - sumA ((shares f).take k1)) (hk1 : (shares f).length ≤ k1) (h2 : r2 = r1 - sumA ([(⟨f.m, (profit f).1⟩ : Pay)].take k2)) (hk2 : [(⟨f.m, (profit f).1⟩ : Pay)].length ≤ k2) : r2 = f.a - sumA (shares f) - (profit f).1 := by
  rw [List.take_of_length_le hk1] at h1
  rw [List.take_of_length_le hk2] at h2
  simp [sumA] at h2
  omega
def LL (f : Fee) : List Pay := (([] : List Pay) ++ shares f) ++ [(⟨f.m, (profit f).1⟩ : Pay)]
theorem small_LL (f : Fee) : SmallL (LL f) 42 56294995342131250 := by
  have h := small1 f
  refine ⟨by have := h.1; simp [LL] at this ⊢; omega, fun p hp => ?_⟩
  have := h.2 p (by simpa [LL] using hp)
  omega
theorem small_one {L L' : List Pay} {n : Nat} {B : Int} (h : SmallL (L ++ L') n B) : SmallL L' n B :=
  ⟨by have := h.1; simp at this; omega, fun p hp => h.2 p (by simp [hp])⟩
theorem small_all {f : Fee} {s r2 : Int} (hc : chk f = 0) (hr : r2 = f.a - sumA (shares f) - (profit f).1) : SmallL (LL f ++ [(⟨s, r2⟩ : Pay)]) 42 56294995342131250 := by
  have h := small3 (s := s) hc
  rw [hr]; simpa [LL, allP] using h
theorem all_is {f : Fee} {s r2 : Int} {m : List (Int × Int)} {k : Nat} (hr : r2 = f.a - sumA (shares f) - (profit f).1) (h : MP m (((([] : List Pay) ++ shares f) ++ [(⟨f.m, (profit f).1⟩ : Pay)]) ++ [(⟨s, r2⟩ : Pay)].take k)) (hk : [(⟨s, r2⟩ : Pay)].length ≤ k) : MP m (allP f s) := by
  rw [List.take_of_length_le hk, hr] at h
  simpa [allP] using h
theorem keyr {f : Fee} {s : Int} {m : List (Int × Int)} {x : Int} {k : Nat} (hc : chk f = 0) (hs : ¬ (s < 0 ∨ s ≥ 192)) (h : MP m (allP f s)) (hx : (m.map (·.1))[k]? = some x) : -1 ≤ x ∧ x < 192 := by
  obtain ⟨y, hy, rfl⟩ := List.mem_map.1 (List.mem_of_getElem? hx)
  obtain ⟨p, hp, e⟩ := h.mem y hy
  rw [← e]
  simp only [allP, List.mem_append, List.mem_singleton] at hp
  rcases hp with (hp | rfl) | rfl
  · have := shares_mem hp; omega
  · dsimp only
    rcases chk_cases f with h2 | ⟨_, hh, _⟩
    · omega
    · unfold headOK at hh; omega
  · dsimp only; omega
theorem map_len {m : List (Int × Int)} {f : Fee} {s : Int} (h : MP m (allP f s)) : m.length ≤ 42 ∧ (m.map (·.1)).length ≤ 42 := by
  have h1 := h.len
  have h2 := shares_len f
  simp [allP] at h1
  rw [List.length_map]
  omega
end Go.Proofs.Ytpkbecaailhhmaa

/-
  Plain laws of parts, shares and payments: sums, proportions, order. Conditions: those of each theorem.
-/
set_option linter.unusedVariables false
set_option linter.unusedSimpArgs false
namespace Go.Proofs.Ytpkbecaailhhmaa
open Go.DL
def sumF (l : List Int) : Int := l.foldr (· + ·) 0
theorem sumF_cons (x : Int) (l : List Int) : sumF (x :: l) = x + sumF l := rfl
theorem leftOf_sum (a : Int) (ps : List Part) : leftOf a ps = a - sumF (ps.map (·.c)) := by
  induction ps generalizing a with
  | nil => simp [leftOf, sumF]
  | cons x l ih =>
    have e : leftOf a (x :: l) = leftOf (a - x.c) l := rfl
    rw [e, ih, List.map_cons, sumF_cons]; omega
theorem sum_bump (f : Part → Int) (g : Part → Bool) (ps : List Part) : sumF (ps.map fun p => f p + if g p = true then 1 else 0) = sumF (ps.map f) + (ps.countP g : Nat) := by
  induction ps with
  | nil => rfl
  | cons x l ih =>
    rw [List.map_cons, List.map_cons, sumF_cons, sumF_cons, ih, List.countP_cons]
    split <;> omega
theorem count_rank {a s : Int} {ws : List Int} {m : Nat} (hm : m ≤ ws.length) : (partsOf a s ws).countP (fun p => decide (rank (partsOf a s ws) p < m)) = m := by
  obtain ⟨d, hR⟩ := sorted_is (partsOf a s ws)
  have hn := sorted_nodup hR
  have hlen : d.length = ws.length := by rw [hR.1.length_eq, partsOf_length]
  rw [← hR.1.countP_eq]
  have h1 : (d.take m).countP (fun p => decide (rank (partsOf a s ws) p < m)) = m := by
    rw [List.countP_eq_length.2, List.length_take, Nat.min_eq_left (by omega)]
    intro y hy
    obtain ⟨i, hi, rfl⟩ := List.mem_iff_getElem.1 hy
    rw [List.length_take] at hi
    rw [List.getElem_take, rank_at hR hn (List.getElem?_eq_getElem (show i < d.length by omega))]
    simp; omega
  have h2 : (d.drop m).countP (fun p => decide (rank (partsOf a s ws) p < m)) = 0 := by
    rw [List.countP_eq_zero]
    intro y hy
    obtain ⟨i, hi, rfl⟩ := List.mem_iff_getElem.1 hy
    rw [List.length_drop] at hi
    rw [List.getElem_drop, rank_at hR hn (List.getElem?_eq_getElem (show m + i < d.length by omega))]
    simp
  have h3 : d.countP (fun p => decide (rank (partsOf a s ws) p < m)) = (d.take m ++ d.drop m).countP (fun p => decide (rank (partsOf a s ws) p < m)) := by rw [List.take_append_drop]
  rw [h3, List.countP_append, h1, h2, Nat.add_zero]
/-- The parts add up to the amount. -/
theorem split_sum {a : Int} {ws : List Int} (h : SplitPre a ws) : sumF (splitW a (sumL 0 ws) ws) = a := by
  have hr := left_range h.ha h.hs (fun x hx => (h.hw x hx).1) rfl
  have hs := leftOf_sum a (partsOf a (sumL 0 ws) ws)
  generalize hL : leftOf a (partsOf a (sumL 0 ws) ws) = L at hr hs
  have hw := sumL_nil ws
  have hpos := h.hs
  obtain ⟨m, rfl⟩ : ∃ m : Nat, L = m := ⟨L.toNat, by omega⟩
  have hc := count_rank (a := a) (s := sumL 0 ws) (ws := ws) (m := m) (by omega)
  have e : splitW a (sumL 0 ws) ws = (partsOf a (sumL 0 ws) ws).map fun p => p.c + if (fun p => decide (rank (partsOf a (sumL 0 ws) ws) p < m)) p = true then 1 else 0 := by
    rw [splitW, hL]
    exact List.map_congr_left fun p _ => by simp
  rw [e, sum_bump, hc]
  show sumF ((partsOf a (sumL 0 ws) ws).map (·.c)) + ((m : Nat) : Int) = a
  omega
/-! ### shares -/
theorem pickPos_sum : ∀ (l : List Train) (P : List Int), l.length = P.length → (∀ n ∈ P, 0 ≤ n) → sumA (pickPos l P) = sumF P
  | [], [], _, _ => rfl
  | t :: ts, n :: ns, hl, h => by
    have ih := pickPos_sum ts ns (by simpa using hl) fun x hx => h x (by simp [hx])
    have h0 := h n (by simp)
    rw [pickPos, sumF_cons]
    split
    · rw [sumA, ih]
    · rw [ih]; omega
  | [], _ :: _, hl, _ => by simp at hl
  | _ :: _, [], hl, _ => by simp at hl
theorem shares_sum {f : Fee} (h : chk f = 0) : sumA (shares f) = solid f := by
  rw [shares, if_neg (by omega)]
  by_cases hn : f.t.length = 0
  · have : f.t = [] := List.eq_nil_of_length_eq_zero hn
    rw [this]; simp [pickPos, sumA, solid, this]
  · have hp := split_pre h hn
    rw [pickPos_sum _ _ (partsF_length f).symm fun x hx => (splitW_bounds hp x hx).1]
    exact split_sum hp
/-! ### payments -/
def restF (f : Fee) : Int := f.a - sumA (shares f) - (profit f).1
theorem rest_nonneg {f : Fee} (h : chk f = 0) : 0 ≤ restF f := by
  have hb := solid_bounds f h
  have hs := shares_sum h
  have hp := profit_rest h
  unfold restF
  omega
theorem tot_all (f : Fee) (s c : Int) : tot c (allP f s) = tot c (shares f) + (if f.m = c then (profit f).1 else 0) + (if s = c then restF f else 0) := by
  simp only [allP, tot_append, tot, restF]; omega
theorem sum_all (f : Fee) (s : Int) : sumA (allP f s) = f.a := by
  simp only [allP, sumA_append, sumA]; omega
theorem tot_nonneg {f : Fee} (h : chk f = 0) (s c : Int) : 0 ≤ tot c (allP f s) := by
  rw [tot_all]
  have h1 := tot_bounds (l := shares f) c fun p hp => by have := shares_mem hp; omega
  have h2 := profit_bounds (f := f)
  have h3 := rest_nonneg h
  split <;> split <;> omega
theorem payOf_c {L : List Pay} {c : Int} {q : Pay} (he : payOf L c = some q) : q.c = c ∧ q.a = tot c L ∧ 0 < q.a := by
  unfold payOf at he
  split at he
  · cases he; exact ⟨rfl, rfl, by assumption⟩
  · cases he
theorem payList_inc (L : List Pay) : ((payList L).map (·.c)).Pairwise (· < ·) := by
  rw [List.pairwise_map]
  exact List.Pairwise.filterMap (S := fun a b : Pay => a.c < b.c) _ (fun a a' (hlt : a < a') b hb b' hb' => by rw [(payOf_c hb).1, (payOf_c hb').1]; omega) List.pairwise_lt_range
theorem payList_mem {L : List Pay} {q : Pay} (h : q ∈ payList L) : 0 ≤ q.c ∧ q.c < 192 ∧ q.a = tot q.c L ∧ 0 < q.a := by
  simp only [payList, List.mem_filterMap, List.mem_range] at h
  obtain ⟨c, hc, he⟩ := h
  have := payOf_c he
  rw [this.1]
  exact ⟨by omega, by omega, this.2.1, this.2.2⟩
theorem fm_snoc2 (g : Nat → Option Pay) (c : Nat) : (List.range (c + 1)).filterMap g = (List.range c).filterMap g ++ (g c).toList := by
  rw [List.range_succ, List.filterMap_append]
  cases h : g c <;> simp [h]
theorem tot_opt {L : List Pay} (h0 : ∀ c, 0 ≤ tot c L) (n : Int) : tot n (payOf L n).toList = tot n L ∧ sumA (payOf L n).toList = tot n L := by
  have := h0 n
  unfold payOf
  split
  · simp [tot, sumA]
  · simp [tot, sumA]; omega
theorem payList_sum {L : List Pay} (h0 : ∀ c, 0 ≤ tot c L) (hL : ∀ p ∈ L, p.c < 192 ∧ (p.c < 0 → p.a = 0)) : sumA (payList L) = sumA L := by
  have key : ∀ n : Nat, sumA ((List.range n).filterMap fun c => payOf L (c : Nat)) = sumA (L.filter fun p => decide (0 ≤ p.c) && decide (p.c < n)) := by
    intro n
    induction n with
    | zero =>
      have : (L.filter fun p => decide (0 ≤ p.c) && decide (p.c < ((0 : Nat) : Int))) = [] := by
        rw [List.filter_eq_nil_iff]; intro p _; simp
      rw [this]; rfl
    | succ n ih =>
      rw [fm_snoc2, sumA_append, ih, (tot_opt h0 _).2]
      clear ih h0 hL
      induction L with
      | nil => rfl
      | cons p l ih =>
        simp only [List.filter_cons, tot]
        by_cases h1 : 0 ≤ p.c
        · by_cases h2 : p.c < n
          · have h3 : p.c < (n + 1 : Nat) := by omega
            simp only [h1, h2, h3, decide_true, Bool.and_self, if_true, sumA]
            rw [if_neg (by omega)]; omega
          · by_cases h3 : p.c = n
            · have h4 : p.c < (n + 1 : Nat) := by omega
              simp only [h1, h2, h4, decide_true, decide_false, Bool.and_self, Bool.and_false, if_true, Bool.false_eq_true, if_false, sumA]
              rw [if_pos h3]; omega
            · have h4 : ¬ p.c < (n + 1 : Nat) := by omega
              simp only [h1, h2, h4, decide_true, decide_false, Bool.and_false, Bool.false_eq_true, if_false]
              rw [if_neg h3]; omega
        · simp only [h1, decide_false, Bool.false_and, Bool.false_eq_true, if_false]
          rw [if_neg (by omega)]; omega
  have h1 : sumA (payList L) = sumA (L.filter fun p => decide (0 ≤ p.c) && decide (p.c < (192 : Nat))) := key 192
  rw [h1]
  clear h1 key h0
  induction L with
  | nil => rfl
  | cons p l ih =>
    have h2 := hL p (by simp)
    have h3 := ih fun q hq => hL q (by simp [hq])
    simp only [List.filter_cons]
    by_cases h1 : 0 ≤ p.c
    · have h4 : p.c < (192 : Nat) := by omega
      simp only [h1, h4, decide_true, Bool.and_self, if_true, sumA]; omega
    · simp only [h1, decide_false, Bool.false_and, Bool.false_eq_true, if_false, sumA]
      have := h2.2 (by omega); omega
theorem all_mem {f : Fee} {s : Int} (hc : chk f = 0) (hs : ¬ (s < 0 ∨ s ≥ 192)) : ∀ p ∈ allP f s, p.c < 192 ∧ (p.c < 0 → p.a = 0) := by
  intro p hp
  simp only [allP, List.mem_append, List.mem_singleton] at hp
  rcases hp with (hp | rfl) | rfl
  · have := shares_mem hp; omega
  · dsimp only
    have h1 := @profit_none f
    rcases chk_cases f with h2 | ⟨_, hh, _⟩
    · omega
    · unfold headOK at hh
      exact ⟨by omega, h1⟩
  · dsimp only; omega
theorem pays_eq {f : Fee} {s : Int} (h : paysE f s = 0) : pays f s = payList (allP f s) ∧ chk f = 0 ∧ 0 ≤ s ∧ s < 192 := by
  unfold paysE at h
  split at h
  · exact absurd h (by assumption)
  · split at h
    · cases h
    · rename_i h1 h2
      rw [pays, if_neg h1, if_neg h2]
      exact ⟨rfl, by omega, by omega, by omega⟩
theorem pays_nil {f : Fee} {s : Int} (h : paysE f s ≠ 0) : pays f s = [] ∧ (paysE f s = chk f ∨ paysE f s = 1 ∧ (s < 0 ∨ s ≥ 192)) := by
  unfold paysE at h ⊢
  unfold pays
  split
  · exact ⟨rfl, .inl rfl⟩
  · rename_i h1
    rw [if_neg h1] at h
    split
    · exact ⟨rfl, .inr ⟨rfl, by assumption⟩⟩
    · rename_i h2; rw [if_neg h2] at h; exact absurd rfl h
theorem pays_sum {f : Fee} {s : Int} (h : paysE f s = 0) : sumA (pays f s) = f.a := by
  obtain ⟨e, hc, h1, h2⟩ := pays_eq h
  rw [e, payList_sum (tot_nonneg hc s) (all_mem hc (by omega)), sum_all]
theorem pays_mem {f : Fee} {s : Int} {q : Pay} (hq : q ∈ pays f s) : 0 ≤ q.c ∧ q.c < 192 ∧ 0 < q.a := by
  by_cases h : paysE f s = 0
  · rw [(pays_eq h).1] at hq
    have := payList_mem hq; omega
  · rw [(pays_nil h).1] at hq; cases hq
theorem pays_inc (f : Fee) (s : Int) : ((pays f s).map (·.c)).Pairwise (· < ·) := by
  by_cases h : paysE f s = 0
  · rw [(pays_eq h).1]; exact payList_inc _
  · rw [(pays_nil h).1]; simp
end Go.Proofs.Ytpkbecaailhhmaa

/-
  What the laws of chapter 38 ask of the plain data. Conditions: those of each theorem.
-/
set_option linter.unusedVariables false
set_option linter.unusedSimpArgs false
namespace Go.Proofs.Ytpkbecaailhhmaa
open Go.DL
def sumM (n : Int) : List Int → Int × Int
  | [] => (n, 0)
  | x :: l => if chkM x ≠ 0 ∨ chkM (n + x) ≠ 0 then (0, 50) else sumM (n + x) l
theorem paysE_amount {f : Fee} {s : Int} (h : paysE f s = 0) : 0 ≤ f.a ∧ f.a ≤ 1125899906842624 := by
  have := solid_bounds f (pays_eq h).2.1; omega
def freeF (f : Fee) : Fee := ⟨f.a, f.p, -1, 0, []⟩
def paysX (f : Fee) (l : List Pay) : Bool := decide (pays f 3 = l) && (paysE f 3 == 0)
end Go.Proofs.Ytpkbecaailhhmaa

/-
  The plain law of ClearingFees: a fee's payments are held and paid exactly. Conditions: those of each theorem.
-/
set_option linter.unusedVariables false
set_option linter.unusedSimpArgs false
namespace Go.Proofs.Ytpkbecaailhhmaa
open Go.DL
def cl192 : List Int := (List.range 192).map fun c : Nat => (c : Int)
theorem cl_snoc {k : Nat} : (List.range (k + 1)).map (fun c : Nat => (c : Int)) = (List.range k).map (fun c : Nat => (c : Int)) ++ [(k : Int)] := by rw [List.range_succ, List.map_append]; rfl
theorem cl_mem {c : Int} (h : 0 ≤ c ∧ c < 192) : c ∈ cl192 := List.mem_map.2 ⟨c.toNat, by rw [List.mem_range]; omega, by omega⟩
theorem cl_newE : newE cl192 = 0 := by kernel_rfl
def hZero : House := ⟨newB cl192, []⟩
theorem zero_V : V hZero ∧ hZero.b.map (·.c) = cl192 ∧ totZ hZero = 0 := by
  have h := cl_newE
  unfold hZero
  generalize cl192 = cl at h ⊢
  exact new_V h
section
attribute [local irreducible] cl192
theorem sumZ_sumA (l : List Pay) : sumZ l = sumA l := by
  induction l with
  | nil => rfl
  | cons x l ih => simp only [sumZ, sumA, ih]
theorem payLoop_ok {has : Int → Bool} : ∀ {l : List Pay} {p : Option Int} {n : Int}, 0 ≤ n → (∀ x ∈ l, has x.c = true ∧ 1 ≤ x.a ∧ x.a ≤ 1125899906842624) → (l.map (·.c)).Pairwise (· < ·) → (∀ x ∈ l, ∀ q, p = some q → q < x.c) → n + sumZ l ≤ 1125899906842624 → payLoop has p n l = true
  | [], p, n, hn, _, _, _, hs => by simp only [sumZ] at hs; rw [payLoop, decide_eq_true_eq]; omega
  | x :: l, p, n, hn, h, hp, hq, hs => by
    rw [List.map_cons, List.pairwise_cons] at hp
    have hx := h x List.mem_cons_self
    have hnn : 0 ≤ sumZ l := sumZ_nonneg fun y hy => by have := h y (List.mem_cons_of_mem _ hy); omega
    simp only [sumZ] at hs
    have hb : notBehind x.c p = false := by
      cases p with
      | none => rfl
      | some q => have := hq x List.mem_cons_self q rfl; simp [notBehind]; omega
    rw [payLoop, if_neg (by rw [hx.1, hb]; simp; omega), wrap_in (by omega) (by omega)]
    exact payLoop_ok (by omega) (fun y hy => h y (List.mem_cons_of_mem _ hy)) hp.2 (fun y hy q e => by cases e; exact hp.1 _ (List.mem_map.2 ⟨y, hy, rfl⟩)) (by omega)
theorem sub_len {l1 : List Int} : ∀ {l2 : List Int}, l1.Nodup → l1 ⊆ l2 → l1.length ≤ l2.length := by
  induction l1 with
  | nil => intro l2 _ _; exact Nat.zero_le _
  | cons x l ih =>
    intro l2 hn hs
    rw [List.nodup_cons] at hn
    have hx : x ∈ l2 := hs List.mem_cons_self
    have h1 := ih (l2 := l2.erase x) hn.2 fun y hy => (List.mem_erase_of_ne (fun e => hn.1 (by rw [← e]; exact hy))).2 (hs (List.mem_cons_of_mem _ hy))
    have h2 := List.length_erase_of_mem hx
    have h3 : 0 < l2.length := List.length_pos_of_mem hx
    rw [List.length_cons]; omega
theorem fm_len (L : List Pay) : (payList L).length ≤ L.length := by
  have h1 : ((payList L).map (·.c)).Nodup := (payList_inc L).imp fun h e => by omega
  have h2 : (payList L).map (·.c) ⊆ L.map (·.c) := by
    intro c hc
    obtain ⟨q, hq, rfl⟩ := List.mem_map.1 hc
    have hm := payList_mem hq
    refine Decidable.byContradiction fun hn => ?_
    have : tot q.c L = 0 := by
      have h3 : ∀ p ∈ L, p.c ≠ q.c := fun p hp e => hn (List.mem_map.2 ⟨p, hp, e⟩)
      clear hm hn hc h1 hq
      induction L with
      | nil => rfl
      | cons x l ih => rw [tot, if_neg (h3 x (by simp)), ih fun p hp => h3 p (by simp [hp])]; rfl
    omega
  have h3 := sub_len h1 h2
  simpa using h3
theorem pays_len2 {f : Fee} {s : Int} (h : paysE f s = 0) : (pays f s).length ≤ 42 := by
  rw [(pays_eq h).1]
  have h1 := fm_len (allP f s)
  have h2 := shares_len f
  have h3 : (allP f s).length = (shares f).length + 2 := by simp [allP]
  omega
section
variable {f : Fee} {b s a : Int}
/-- The house behind the payment of the funds. -/
def hPaid (b a : Int) : House := (paid hZero b a).1
structure PaidH (b a : Int) : Prop where
  v : V (hPaid b a)
  cl : (hPaid b a).b.map (·.c) = cl192
  tot : totZ (hPaid b a) = a
  hs : (hPaid b a).h = []
  a1 : 1 ≤ a
  a2 : a ≤ 1125899906842624
  mem : b ∈ cl192
  bal : (bal b (hPaid b a).b).1 = a
theorem paid_is (e : (paid hZero b a).2 = 0) : PaidH b a := by
  obtain ⟨v, hc, ht⟩ := zero_V
  have e2 := pair2 e
  obtain ⟨v', h1, h2, h3, h4, h5⟩ := paid_ok v e2
  have hb : hasB hZero b = true := by
    unfold paid at e
    rw [v.check] at e
    simp only [ne_eq, not_true_eq_false, if_false] at e
    split at e
    · simp at e
    · rename_i hn
      cases q : hasB hZero b with
      | true => rfl
      | false => exact absurd (.inl q) hn
  rw [hasB_eq v.cl] at hb
  have hm : b ∈ cl192 := by rw [← hc]; exact hasR_mem.1 hb
  have hbal : (bal b (hPaid b a).b).1 = a := by
    have hx : hPaid b a = ⟨cred hZero.b [⟨b, a⟩], hZero.h⟩ := by
      unfold hPaid
      unfold paid at e ⊢
      rw [v.check] at e ⊢
      simp only [ne_eq, not_true_eq_false, if_false] at e ⊢
      split at e
      · simp at e
      · rename_i hn
        rw [if_neg hn]
        split at e
        · simp at e
        · rename_i hn2
          rw [if_neg hn2]
    rw [hx]
    show (bal b (cred hZero.b [⟨b, a⟩])).1 = a
    rw [bal_cred v (mod_one (by omega) h5) b (by rw [hc]; exact hm)]
    have h0 : (bal b hZero.b).1 = 0 := by
      have : ∀ l : List Int, (bal b (l.map fun c => (⟨c, 0⟩ : Pay))).1 = 0 := by
        intro l
        induction l with
        | nil => rfl
        | cons c l ih =>
          rw [List.map_cons, bal]
          split
          · rfl
          · exact ih
      have hnb : hZero.b = cl192.map fun c => ⟨c, 0⟩ := by
        show newB cl192 = _
        unfold newB
        rw [if_pos (by kernel_rfl)]
      rw [hnb, this]
    rw [h0]; simp [amtZ]
  exact ⟨v', h1.trans hc, by rw [show totZ (hPaid b a) = totZ (paid hZero b a).1 from rfl, h2, ht]; omega, h3, h4, h5, hm, hbal⟩
theorem hold_pays (hP : PaidH b a) (h : paysE f s = 0) : paysOK (hasB (hPaid b a)) (pays f s) = true := by
  unfold paysOK
  have hl := pays_len2 h
  rw [if_neg (by omega)]
  refine payLoop_ok (Int.le_refl 0) (fun x hx => ?_) (pays_inc f s) (fun x hx q e => by cases e) ?_
  · have hm := pays_mem hx
    have h1 : x.a ≤ 1125899906842624 := by
      have h2 := sumZ_mem (l := pays f s) (fun y hy => by have := pays_mem hy; omega) hx
      rw [sumZ_sumA, pays_sum h] at h2
      have := paysE_amount h; omega
    refine ⟨?_, by omega, h1⟩
    rw [hasB_eq hP.v.cl]
    exact hasR_mem.2 (by rw [hP.cl]; exact cl_mem ⟨hm.1, hm.2.1⟩)
  · rw [sumZ_sumA, pays_sum h]
    have := paysE_amount h; omega
theorem sum_pays (h : paysE f s = 0) : sumFrom 0 (pays f s) = f.a := by
  have hl := pays_len2 h
  have ha := paysE_amount h
  have hs : Small (pays f s) := fun x hx => by
    have hm := pays_mem hx
    have h2 := sumZ_mem (l := pays f s) (fun y hy => by have := pays_mem hy; omega) hx
    rw [sumZ_sumA, pays_sum h] at h2
    omega
  rw [sumFrom_eq hs (Int.le_refl 0) (by omega), sumZ_sumA, pays_sum h]; omega
/-- Holding the payments fails for want of funds alone. -/
theorem hold_err (hP : PaidH b a) (h : paysE f s = 0) : (held (hPaid b a) 1 b (pays f s)).2 = 0 ∨ ((held (hPaid b a) 1 b (pays f s)).2 = 390 ∧ a < f.a) := by
  unfold held
  rw [hP.v.check, hP.hs]
  have hb : hasB (hPaid b a) b = true := by rw [hasB_eq hP.v.cl]; exact hasR_mem.2 (by rw [hP.cl]; exact hP.mem)
  simp only [ne_eq, not_true_eq_false, if_false, List.map_nil]
  rw [if_neg (by rintro (h1 | h1 | h1); omega; omega; simp [bsMet] at h1), hold_pays hP h, hb, if_neg (by simp)]
  split
  · rename_i hlt
    rw [hP.bal, sum_pays h] at hlt
    exact .inr ⟨rfl, hlt⟩
  · exact .inl rfl
theorem hold_done (hP : PaidH b a) (h : paysE f s = 0) (e : (held (hPaid b a) 1 b (pays f s)).2 = 0) :
    (bal b (held (hPaid b a) 1 b (pays f s)).1.b).1 = a - f.a ∧ (bal b (held (hPaid b a) 1 b (pays f s)).1.b).2 = true ∧ (settled (held (hPaid b a) 1 b (pays f s)).1 1 true).2 = 0 ∧
    total (settled (held (hPaid b a) 1 b (pays f s)).1 1 true).1 = a ∧ total (held (hPaid b a) 1 b (pays f s)).1 = a ∧ sumFrom 0 (settled (held (hPaid b a) 1 b (pays f s)).1 1 true).1.b = a := by
  have hm : b ∈ (hPaid b a).b.map (·.c) := by rw [hP.cl]; exact hP.mem
  obtain ⟨v', h1, h2, h3, h4, h5, h6⟩ := held_ok hP.v (pair2 e)
  have hbal := mv_bal hP.v e hm
  have hset := mv_set hP.v e true
  have hget := mv_get hP.v e
  obtain ⟨v2, g1, g2⟩ := setl_ok v' hget rfl true
  have hs : sumZ (pays f s) = f.a := by rw [sumZ_sumA, pays_sum h]
  refine ⟨?_, ?_, by rw [hset], ?_, ?_, ?_⟩
  · rw [hbal, hP.bal, if_pos rfl, hs]; omega
  · rw [bal_mem]; exact decide_eq_true (by rw [h1]; exact hm)
  · rw [hset]; show total (setl _ _ _ true) = a; rw [v2.total, g2, h2, hP.tot]
  · rw [v'.total, h2, hP.tot]
  · rw [hset]
    show sumFrom 0 (setl _ _ _ true).b = a
    have hlen := v2.lb
    rw [sumFrom_eq v2.small (Int.le_refl 0) (by omega)]
    have ht : totZ (setl (held (hPaid b a) 1 b (pays f s)).1 (bsAt ((hPaid b a).h.map (·.t)) 1) ⟨1, b, pays f s, 1⟩ true) = a := by rw [g2, h2, hP.tot]
    have hz : heldZ (setl (held (hPaid b a) 1 b (pays f s)).1 (bsAt ((hPaid b a).h.map (·.t)) 1) ⟨1, b, pays f s, 1⟩ true).h = 0 := by
      rw [h6, hP.hs]
      simp [setl, bsAt_nil, heldZ]
    unfold totZ at ht
    omega
end
theorem new_zero {w : List Int} (h : w = cl192) : D.tup [.agg [.sl 2 ((newB w).map encPay), .sl 4 (([] : List Hold).map encHold)], I (newE w)] = D.tup [.agg [.sl 2 (hZero.b.map encPay), .sl 4 (hZero.h.map encHold)], I 0] := by
  subst h; rw [cl_newE]; unfold hZero; rfl
theorem pay_zero (b a : Int) : D.tup [.agg [.sl 2 ((paid hZero b a).1.b.map encPay), .sl 4 ((paid hZero b a).1.h.map encHold)], I (paid hZero b a).2] = D.tup [.agg [.sl 2 ((hPaid b a).b.map encPay), .sl 4 ((hPaid b a).h.map encHold)], I (paid hZero b a).2] := by unfold hPaid; rfl
theorem fits_hZero : Fits hZero := by unfold hZero; exact fits_newB (by simp [cl192])
theorem fits_hPaid (b a : Int) : Fits (hPaid b a) := fits_paid (fits_newB (by simp [cl192])) _ _
end
end Go.Proofs.Ytpkbecaailhhmaa
