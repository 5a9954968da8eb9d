/-
  Texts that belong together, one behind the other; what each of them proves, and under which conditions, its own heading says.
-/
import Derived.Test.YthpjlkpkhlkhbaaRows
import Derived.Test.YthpjlkpkhlkhbaaKf
/-
  Walks at the data level, printed by gen.py: what each Go function returns, for data that reads as said. Conditions: those of each theorem.
-/
namespace Go.Proofs.Ythpjlkpkhlkhbaa
open Go.DL
set_option maxRecDepth 100000
set_option linter.unusedVariables false
set_option linter.unusedSimpArgs false
theorem ret_law_shares (f : Fee) (ht : f.t.length ≤ 140737488355328) : Ret Try.prog 7 [(.agg [(I f.a), (I f.p), (I f.m), (I f.s), (.sl 2 (f.t.map encTrain))])] (B true) := by
  have hpz : ∀ q, paysE f q = 0 → chk f = 0 ∧ (profit f).2 = 0 ∧ 0 ≤ f.a ∧ f.a ≤ 1125899906842624 := fun q h => ⟨(pays_eq h).2.1, profit_err (pays_eq h).2.1, paysE_amount h⟩
  have hpb := profit_bounds (f := f)
  have hsl := shares_len f
  refine Ret.of_T Try.func7 (by kernel_rfl) rfl ?_
  refine T_turn [] [0] [] (mk 117 [(0, (.agg [(.dat (I f.a)), (.dat (I f.p)), (.dat (I f.m)), (.dat (I f.s)), (.dat (.sl 2 (f.t.map encTrain)))]))] []) (by kernel_rfl) ?_
  refine T_reg [] [1] [] (mk 117 [(1, (.one (.ref 1 0)))] [(1, (.var [(.dat (I f.a)), (.dat (I f.p)), (.dat (I f.m)), (.dat (I f.s)), (.dat (.sl 2 (f.t.map encTrain)))]))]) (True ∧ True ∧ True ∧ True ∧ True) (by kernel_rfl) ⟨trivial, trivial, trivial, trivial, trivial⟩ ?_
  refine T_seq ?_
  refine T_reg [{ d := some (B true) }] [1, 14] [] (mk 117 [(1, (.one (.ref 1 0))), (14, (dt (B false)))] [(1, (.var [(.dat (I f.a)), (.dat (I f.p)), (.dat (I f.m)), (.dat (I f.s)), (.dat (.sl 2 (f.t.map encTrain)))]))]) (True ∧ (Ret Try.prog 10 [] (B true)) ∧ True ∧ True ∧ True) (by kernel_rfl) ⟨trivial, ret_sane, trivial, trivial, trivial⟩ ?_
  refine T_cond false (by kernel_rfl) (fun h => absurd (h.symm.trans rfl) (by decide)) (fun _ => ?_)
  refine T_skip ?_
  refine T_seq ?_
  rcases Bool.eq_false_or_eq_true (!(decide (f.t.length ≤ 60))) with h1 | h1
  · skip
    have n2 : (decide (f.t.length ≤ 60)) = false := not_t h1
    have g3 : ¬ (f.t.length ≤ 60) := of_decide_eq_false (n2)
    refine T_reg [{}, { d := some (B (decide (f.t.length ≤ 60))) }, {}, {}, { g := false }, { g := false }, { g := false }, { g := false }, { d := some (B true) }, {}, { g := false }, { g := false }, { g := false }, { d := some (B true) }] [1, 28] [] (mk 117 [(1, (.one (.ref 1 0))), (28, (dt (B true)))] [(1, (.var [(.dat (I f.a)), (.dat (I f.p)), (.dat (I f.m)), (.dat (I f.s)), (.dat (.sl 2 (f.t.map encTrain)))]))]) (True ∧ True ∧ True ∧ (Ret Try.prog 11 [(.agg [(I f.a), (I f.p), (I f.m), (I f.s), (.sl 2 (f.t.map encTrain))])] (B (decide (f.t.length ≤ 60)))) ∧ True ∧ True ∧ True ∧ True ∧ (((!(decide (f.t.length ≤ 60))) == false) = false) ∧ (((!(decide (f.t.length ≤ 60))) == false) = false) ∧ (((!(decide (f.t.length ≤ 60))) == false) = false) ∧ (((!(decide (f.t.length ≤ 60))) == false) = false) ∧ True ∧ ((!(decide (f.t.length ≤ 60))) = true) ∧ True ∧ True ∧ ((true == false) = false) ∧ ((true == false) = false) ∧ ((true == false) = false) ∧ True ∧ (true = true) ∧ True) (by kernel_rfl) ⟨trivial, trivial, trivial, (ret_few f (by first | assumption | (simp; done) | decide)), trivial, trivial, trivial, trivial, (by rw [show (!(decide (f.t.length ≤ 60))) = true from h1]; rfl), (by rw [show (!(decide (f.t.length ≤ 60))) = true from h1]; rfl), (by rw [show (!(decide (f.t.length ≤ 60))) = true from h1]; rfl), (by rw [show (!(decide (f.t.length ≤ 60))) = true from h1]; rfl), trivial, h1, trivial, trivial, (by rw [show true = true from rfl]; rfl), (by rw [show true = true from rfl]; rfl), (by rw [show true = true from rfl]; rfl), trivial, rfl, trivial⟩ ?_
    refine T_cond true (by kernel_rfl) (fun _ => ?_) (fun h => absurd (h.symm.trans rfl) (by decide))
    refine T_reg [] [2] [1] (mk 117 [(2, (dt (B true)))] []) (True ∧ True ∧ True) (by kernel_rfl) ⟨trivial, trivial, trivial⟩ ?_
    refine T_ret ?_
    exact ret_here [(dt (B true))] (by kernel_rfl) (.inl rfl)
  · skip
    have n4 : (decide (f.t.length ≤ 60)) = true := not_f h1
    have g5 : (f.t.length ≤ 60) := of_decide_eq_true (n4)
    rcases Bool.eq_false_or_eq_true (((f.t.length : Nat) : Int) == 0) with h6 | h6
    · skip
      have g7 : ((f.t.length : Nat) : Int) = 0 := eq_of_beq (h6)
      refine T_reg [{}, { d := some (B (decide (f.t.length ≤ 60))) }, {}, {}, {}, {}, { d := some (I ((f.t.length : Nat) : Int)) }, {}, { d := some (B false) }, {}, { g := false }, { g := false }, { g := false }, { d := some (B true) }] [1, 28] [] (mk 117 [(1, (.one (.ref 1 0))), (28, (dt (B true)))] [(1, (.var [(.dat (I f.a)), (.dat (I f.p)), (.dat (I f.m)), (.dat (I f.s)), (.dat (.sl 2 (f.t.map encTrain)))]))]) (True ∧ True ∧ True ∧ (Ret Try.prog 11 [(.agg [(I f.a), (I f.p), (I f.m), (I f.s), (.sl 2 (f.t.map encTrain))])] (B (decide (f.t.length ≤ 60)))) ∧ True ∧ True ∧ True ∧ True ∧ (((!(decide (f.t.length ≤ 60))) == false) = true) ∧ True ∧ (((!(decide (f.t.length ≤ 60))) == false) = true) ∧ True ∧ (((!(decide (f.t.length ≤ 60))) == false) = true) ∧ (True ∧ D.int .i64 ((f.t.map encTrain).length : Int) = (I ((f.t.length : Nat) : Int))) ∧ (((!(decide (f.t.length ≤ 60))) == false) = true) ∧ True ∧ True ∧ ((!(decide (f.t.length ≤ 60))) = false) ∧ True ∧ True ∧ (((((f.t.length : Nat) : Int) == 0) == false) = false) ∧ (((((f.t.length : Nat) : Int) == 0) == false) = false) ∧ (((((f.t.length : Nat) : Int) == 0) == false) = false) ∧ True ∧ ((((f.t.length : Nat) : Int) == 0) = true) ∧ True) (by kernel_rfl) ⟨trivial, trivial, trivial, (ret_few f (by first | assumption | (simp; done) | decide)), trivial, trivial, trivial, trivial, (by rw [show (!(decide (f.t.length ≤ 60))) = false from h1]; rfl), trivial, (by rw [show (!(decide (f.t.length ≤ 60))) = false from h1]; rfl), trivial, (by rw [show (!(decide (f.t.length ≤ 60))) = false from h1]; rfl), ⟨trivial, by rw [List.length_map]⟩, (by rw [show (!(decide (f.t.length ≤ 60))) = false from h1]; rfl), trivial, trivial, h1, trivial, trivial, (by rw [show (((f.t.length : Nat) : Int) == 0) = true from h6]; rfl), (by rw [show (((f.t.length : Nat) : Int) == 0) = true from h6]; rfl), (by rw [show (((f.t.length : Nat) : Int) == 0) = true from h6]; rfl), trivial, h6, trivial⟩ ?_
      refine T_cond true (by kernel_rfl) (fun _ => ?_) (fun h => absurd (h.symm.trans rfl) (by decide))
      refine T_reg [] [2] [1] (mk 117 [(2, (dt (B true)))] []) (True ∧ True ∧ True) (by kernel_rfl) ⟨trivial, trivial, trivial⟩ ?_
      refine T_ret ?_
      exact ret_here [(dt (B true))] (by kernel_rfl) (.inl rfl)
    · skip
      have g8 : ((f.t.length : Nat) : Int) ≠ 0 := ne_of_beq_false (h6)
      refine T_reg [{}, { d := some (B (decide (f.t.length ≤ 60))) }, {}, {}, {}, {}, { d := some (I ((f.t.length : Nat) : Int)) }, {}, { d := some (B false) }, {}, {}, {}, {}, { d := some (B false) }] [1, 28] [] (mk 117 [(1, (.one (.ref 1 0))), (28, (dt (B (decide (f.a > 1099511627776)))))] [(1, (.var [(.dat (I f.a)), (.dat (I f.p)), (.dat (I f.m)), (.dat (I f.s)), (.dat (.sl 2 (f.t.map encTrain)))]))]) (True ∧ True ∧ True ∧ (Ret Try.prog 11 [(.agg [(I f.a), (I f.p), (I f.m), (I f.s), (.sl 2 (f.t.map encTrain))])] (B (decide (f.t.length ≤ 60)))) ∧ True ∧ True ∧ True ∧ True ∧ (((!(decide (f.t.length ≤ 60))) == false) = true) ∧ True ∧ (((!(decide (f.t.length ≤ 60))) == false) = true) ∧ True ∧ (((!(decide (f.t.length ≤ 60))) == false) = true) ∧ (True ∧ D.int .i64 ((f.t.map encTrain).length : Int) = (I ((f.t.length : Nat) : Int))) ∧ (((!(decide (f.t.length ≤ 60))) == false) = true) ∧ True ∧ True ∧ ((!(decide (f.t.length ≤ 60))) = false) ∧ True ∧ True ∧ (((((f.t.length : Nat) : Int) == 0) == false) = true) ∧ True ∧ (((((f.t.length : Nat) : Int) == 0) == false) = true) ∧ True ∧ (((((f.t.length : Nat) : Int) == 0) == false) = true) ∧ True ∧ True ∧ ((((f.t.length : Nat) : Int) == 0) = false) ∧ True) (by kernel_rfl) ⟨trivial, trivial, trivial, (ret_few f (by first | assumption | (simp; done) | decide)), trivial, trivial, trivial, trivial, (by rw [show (!(decide (f.t.length ≤ 60))) = false from h1]; rfl), trivial, (by rw [show (!(decide (f.t.length ≤ 60))) = false from h1]; rfl), trivial, (by rw [show (!(decide (f.t.length ≤ 60))) = false from h1]; rfl), ⟨trivial, by rw [List.length_map]⟩, (by rw [show (!(decide (f.t.length ≤ 60))) = false from h1]; rfl), trivial, trivial, h1, trivial, trivial, (by rw [show (((f.t.length : Nat) : Int) == 0) = false from h6]; rfl), trivial, (by rw [show (((f.t.length : Nat) : Int) == 0) = false from h6]; rfl), trivial, (by rw [show (((f.t.length : Nat) : Int) == 0) = false from h6]; rfl), trivial, trivial, h6, trivial⟩ ?_
      refine T_cond (decide (f.a > 1099511627776)) (by kernel_rfl) (fun h9 => ?_) (fun h9 => ?_)
      · skip
        have g10 : f.a > 1099511627776 := of_decide_eq_true (h9)
        refine T_reg [] [2] [1] (mk 117 [(2, (dt (B true)))] []) (True ∧ True ∧ True) (by kernel_rfl) ⟨trivial, trivial, trivial⟩ ?_
        refine T_ret ?_
        exact ret_here [(dt (B true))] (by kernel_rfl) (.inl rfl)
      · skip
        have g11 : ¬ (f.a > 1099511627776) := of_decide_eq_false (h9)
        refine T_skip ?_
        refine T_reg [{}, { d := some (.tup [(.sl 2 ((shares f).map encPay)), (I (chk f))]) }] [1, 3, 4] [] (mk 117 [(1, (.one (.ref 1 0))), (3, (dt (.sl 2 ((shares f).map encPay)))), (4, (dt (I (chk f))))] [(1, (.var [(.dat (I f.a)), (.dat (I f.p)), (.dat (I f.m)), (.dat (I f.s)), (.dat (.sl 2 (f.t.map encTrain)))]))]) (True ∧ True ∧ True ∧ (Ret Try.prog 12 [(.agg [(I f.a), (I f.p), (I f.m), (I f.s), (.sl 2 (f.t.map encTrain))])] (.tup [(.sl 2 ((shares f).map encPay)), (I (chk f))])) ∧ True ∧ True ∧ True ∧ True ∧ True ∧ True ∧ True ∧ True ∧ True ∧ True ∧ True) (by kernel_rfl) ⟨trivial, trivial, trivial, (ret_shares f (by first | assumption | (simp; done) | decide)), trivial, trivial, trivial, trivial, trivial, trivial, trivial, trivial, trivial, trivial, trivial⟩ ?_
        refine T_seq ?_
        refine T_reg [] [1, 3, 4, 35] [] (mk 117 [(1, (.one (.ref 1 0))), (3, (dt (.sl 2 ((shares f).map encPay)))), (4, (dt (I (chk f)))), (35, (dt (B ((chk f) != 0))))] [(1, (.var [(.dat (I f.a)), (.dat (I f.p)), (.dat (I f.m)), (.dat (I f.s)), (.dat (.sl 2 (f.t.map encTrain)))]))]) (True ∧ True ∧ True ∧ True ∧ True) (by kernel_rfl) ⟨trivial, trivial, trivial, trivial, trivial⟩ ?_
        refine T_cond ((chk f) != 0) (by kernel_rfl) (fun h12 => ?_) (fun h12 => ?_)
        · skip
          have g13 : (chk f) ≠ 0 := bne_iff_ne.1 (h12)
          have hlen := len_zero (shares_bad (f := f) (by assumption))
          rcases Bool.eq_false_or_eq_true ((((shares f).length : Nat) : Int) == 0) with h14 | h14
          · skip
            have g15 : (((shares f).length : Nat) : Int) = 0 := eq_of_beq (h14)
            have hlen := len_zero (shares_bad (f := f) (by assumption))
            refine T_reg [{}, { d := some (I (((shares f).length : Nat) : Int)) }, {}, {}, {}, {}, { d := some (I (chk f)) }, {}, { d := some (B true) }] [2] [1] (mk 117 [(2, (dt (B ((chk f) == (chk f)))))] []) (True ∧ True ∧ True ∧ (True ∧ D.int .i64 (((shares f).map encPay).length : Int) = (I (((shares f).length : Nat) : Int))) ∧ True ∧ True ∧ True ∧ True ∧ ((((((shares f).length : Nat) : Int) == 0) == true) = true) ∧ True ∧ ((((((shares f).length : Nat) : Int) == 0) == true) = true) ∧ True ∧ ((((((shares f).length : Nat) : Int) == 0) == true) = true) ∧ (Ret Try.prog 16 [(.agg [(I f.a), (I f.p), (I f.m), (I f.s), (.sl 2 (f.t.map encTrain))])] (I (chk f))) ∧ ((((((shares f).length : Nat) : Int) == 0) == true) = true) ∧ True ∧ True ∧ (((((shares f).length : Nat) : Int) == 0) = true) ∧ True ∧ True ∧ True) (by kernel_rfl) ⟨trivial, trivial, trivial, ⟨trivial, by rw [List.length_map]⟩, trivial, trivial, trivial, trivial, (by rw [show ((((shares f).length : Nat) : Int) == 0) = true from h14]; rfl), trivial, (by rw [show ((((shares f).length : Nat) : Int) == 0) = true from h14]; rfl), trivial, (by rw [show ((((shares f).length : Nat) : Int) == 0) = true from h14]; rfl), (ret_chk f (by first | assumption | (simp; done) | decide)), (by rw [show ((((shares f).length : Nat) : Int) == 0) = true from h14]; rfl), trivial, trivial, h14, trivial, trivial, trivial⟩ ?_
            refine T_ret ?_
            exact ret_here [(dt (B ((chk f) == (chk f))))] (by kernel_rfl) (.inl (congrArg B (by first | rfl | exact beq_self_eq_true _ | (simp only [decide_eq_true_eq, beq_iff_eq, Bool.not_eq_true, bne_iff_ne, ne_eq] at *; omega) : ((chk f) == (chk f)) = true)))
          · skip
            have g16 : (((shares f).length : Nat) : Int) ≠ 0 := ne_of_beq_false (h14)
            have hlen := len_zero (shares_bad (f := f) (by assumption))
            refine T_reg [{}, { d := some (I (((shares f).length : Nat) : Int)) }, {}, {}, { g := false }, { g := false }, { g := false }, { g := false }, { d := some (B false) }] [2] [1] (mk 117 [(2, (dt (B false)))] []) (True ∧ True ∧ True ∧ (True ∧ D.int .i64 (((shares f).map encPay).length : Int) = (I (((shares f).length : Nat) : Int))) ∧ True ∧ True ∧ True ∧ True ∧ ((((((shares f).length : Nat) : Int) == 0) == true) = false) ∧ ((((((shares f).length : Nat) : Int) == 0) == true) = false) ∧ ((((((shares f).length : Nat) : Int) == 0) == true) = false) ∧ ((((((shares f).length : Nat) : Int) == 0) == true) = false) ∧ True ∧ (((((shares f).length : Nat) : Int) == 0) = false) ∧ True ∧ True ∧ True) (by kernel_rfl) ⟨trivial, trivial, trivial, ⟨trivial, by rw [List.length_map]⟩, trivial, trivial, trivial, trivial, (by rw [show ((((shares f).length : Nat) : Int) == 0) = false from h14]; rfl), (by rw [show ((((shares f).length : Nat) : Int) == 0) = false from h14]; rfl), (by rw [show ((((shares f).length : Nat) : Int) == 0) = false from h14]; rfl), (by rw [show ((((shares f).length : Nat) : Int) == 0) = false from h14]; rfl), trivial, h14, trivial, trivial, trivial⟩ ?_
            refine T_ret ?_
            exact ret_here [(dt (B false))] (by kernel_rfl) (.inl (congrArg B (by first | rfl | exact beq_self_eq_true _ | (simp only [decide_eq_true_eq, beq_iff_eq, Bool.not_eq_true, bne_iff_ne, ne_eq] at *; omega) : false = true)))
        · skip
          have g17 : (chk f) = 0 := bne_f (h12)
          refine T_skip ?_
          refine T_reg [{}, {}, { d := some (.tup [(I (partM f.a 50).1), (I (partM f.a 50).2)]) }] [1, 3, 5, 6] [] (mk 117 [(1, (.one (.ref 1 0))), (3, (dt (.sl 2 ((shares f).map encPay)))), (5, (dt (I (partM f.a 50).1))), (6, (dt (I (partM f.a 50).2)))] [(1, (.var [(.dat (I f.a)), (.dat (I f.p)), (.dat (I f.m)), (.dat (I f.s)), (.dat (.sl 2 (f.t.map encTrain)))]))]) (True ∧ True ∧ True ∧ True ∧ True ∧ (Ret Try.prog 22 [(I f.a), (I 50)] (.tup [(I (partM f.a 50).1), (I (partM f.a 50).2)])) ∧ True ∧ True ∧ True ∧ True ∧ True ∧ True ∧ True ∧ True ∧ True ∧ True ∧ True) (by kernel_rfl) ⟨trivial, trivial, trivial, trivial, trivial, (ret_partM _ _), trivial, trivial, trivial, trivial, trivial, trivial, trivial, trivial, trivial, trivial, trivial⟩ ?_
          refine T_seq ?_
          have hwi := whole_is (f := f) (by assumption)
          rcases Bool.eq_false_or_eq_true ((partM f.a 50).2 != 0) with h18 | h18
          · skip
            have g19 : (partM f.a 50).2 ≠ 0 := bne_iff_ne.1 (h18)
            exact (by exfalso; have := whole_is (f := f) (by assumption); omega)
          · skip
            have g20 : (partM f.a 50).2 = 0 := bne_f (h18)
            have hwi := whole_is (f := f) (by assumption)
            refine T_reg [{}, {}, {}, {}, {}, {}, { d := some (I (f.a.tdiv 20)) }, {}, { d := some (B false) }] [1, 3, 5, 59] [] (mk 117 [(1, (.one (.ref 1 0))), (3, (dt (.sl 2 ((shares f).map encPay)))), (5, (dt (I (partM f.a 50).1))), (59, (dt (B ((partM f.a 50).1 != (f.a.tdiv 20)))))] [(1, (.var [(.dat (I f.a)), (.dat (I f.p)), (.dat (I f.m)), (.dat (I f.s)), (.dat (.sl 2 (f.t.map encTrain)))]))]) (True ∧ True ∧ True ∧ True ∧ True ∧ True ∧ ((((partM f.a 50).2 != 0) == false) = true) ∧ True ∧ ((((partM f.a 50).2 != 0) == false) = true) ∧ True ∧ ((((partM f.a 50).2 != 0) == false) = true) ∧ True ∧ ((((partM f.a 50).2 != 0) == false) = true) ∧ ((20 : Int) ≠ 0 ∧ IntKind.i64.wrap (f.a.tdiv 20) = (f.a.tdiv 20)) ∧ ((((partM f.a 50).2 != 0) == false) = true) ∧ True ∧ True ∧ (((partM f.a 50).2 != 0) = false) ∧ True) (by kernel_rfl) ⟨trivial, trivial, trivial, trivial, trivial, trivial, (by rw [show ((partM f.a 50).2 != 0) = false from h18]; rfl), trivial, (by rw [show ((partM f.a 50).2 != 0) = false from h18]; rfl), trivial, (by rw [show ((partM f.a 50).2 != 0) = false from h18]; rfl), trivial, (by rw [show ((partM f.a 50).2 != 0) = false from h18]; rfl), ⟨by omega, i64_wrap (by have := whole_is (f := f) (by assumption); omega) (by have := whole_is (f := f) (by assumption); omega)⟩, (by rw [show ((partM f.a 50).2 != 0) = false from h18]; rfl), trivial, trivial, h18, trivial⟩ ?_
            refine T_cond ((partM f.a 50).1 != (f.a.tdiv 20)) (by kernel_rfl) (fun h21 => ?_) (fun h21 => ?_)
            · skip
              have g22 : (partM f.a 50).1 ≠ (f.a.tdiv 20) := bne_iff_ne.1 (h21)
              exact (by exfalso; have := whole_is (f := f) (by assumption); omega)
            · skip
              have g23 : (partM f.a 50).1 = (f.a.tdiv 20) := bne_f (h21)
              refine T_skip ?_
              refine T_reg [] [1, 3, 5, 7] [] (mk 117 [(1, (.one (.ref 1 0))), (3, (dt (.sl 2 ((shares f).map encPay)))), (5, (dt (I (partM f.a 50).1))), (7, (dt (I 0)))] [(1, (.var [(.dat (I f.a)), (.dat (I f.p)), (.dat (I f.m)), (.dat (I f.s)), (.dat (.sl 2 (f.t.map encTrain)))]))]) (True ∧ True ∧ True) (by kernel_rfl) ⟨trivial, trivial, trivial⟩ ?_
              refine T_seq ?_
              refine T_reg [] [1, 3, 5, 7, 8] [] (mk 117 [(1, (.one (.ref 1 0))), (3, (dt (.sl 2 ((shares f).map encPay)))), (5, (dt (I (partM f.a 50).1))), (7, (dt (I 0))), (8, (dt (I 0)))] [(1, (.var [(.dat (I f.a)), (.dat (I f.p)), (.dat (I f.m)), (.dat (I f.s)), (.dat (.sl 2 (f.t.map encTrain)))]))]) (True ∧ True ∧ True) (by kernel_rfl) ⟨trivial, trivial, trivial⟩ ?_
              refine T_block ?_
              refine T_turn [] [1, 3, 5, 7, 8] [] ((fun ((k, n) : Nat × Int) => (mk 117 [(1, (.one (.ref 1 0))), (3, (dt (.sl 2 ((shares f).map encPay)))), (5, (dt (I (partM f.a 50).1))), (7, (dt (I n))), (8, (dt (I ((k : Nat) : Int))))] [(1, (.var [(.dat (I f.a)), (.dat (I f.p)), (.dat (I f.m)), (.dat (I f.s)), (.dat (.sl 2 (f.t.map encTrain)))]))])) (0, 0)) (by kernel_rfl) (T_loop (α := Nat × Int) (fun ((k, n) : Nat × Int) => (mk 117 [(1, (.one (.ref 1 0))), (3, (dt (.sl 2 ((shares f).map encPay)))), (5, (dt (I (partM f.a 50).1))), (7, (dt (I n))), (8, (dt (I ((k : Nat) : Int))))] [(1, (.var [(.dat (I f.a)), (.dat (I f.p)), (.dat (I f.m)), (.dat (I f.s)), (.dat (.sl 2 (f.t.map encTrain)))]))])) (fun ((k, n) : Nat × Int) => (k ≤ f.t.length) ∧ (sumL n ((wsOf f).drop k) = sumL 0 (wsOf f)) ∧ (0 ≤ n ∧ n ≤ 12 * (k : Int)) ∧ True) (fun ((k, n) : Nat × Int) => f.t.length - k) (0, 0) ⟨Nat.zero_le _, rfl, ⟨by decide, by decide⟩, trivial⟩ ?_)
              rintro ⟨k, n⟩ ⟨ik, iv, ib, _⟩
              have h40 := chk_len (f := f) (by assumption)
              refine T_seq ?_
              refine T_reg [{}, {}, {}, { d := some (I ((f.t.length : Nat) : Int)) }] [1, 3, 5, 7, 8, 64] [] (mk 117 [(1, (.one (.ref 1 0))), (3, (dt (.sl 2 ((shares f).map encPay)))), (5, (dt (I (partM f.a 50).1))), (7, (dt (I n))), (8, (dt (I ((k : Nat) : Int)))), (64, (dt (B (decide (((k : Nat) : Int) < ((f.t.length : Nat) : Int))))))] [(1, (.var [(.dat (I f.a)), (.dat (I f.p)), (.dat (I f.m)), (.dat (I f.s)), (.dat (.sl 2 (f.t.map encTrain)))]))]) (True ∧ True ∧ True ∧ True ∧ True ∧ True ∧ True ∧ (True ∧ D.int .i64 ((f.t.map encTrain).length : Int) = (I ((f.t.length : Nat) : Int))) ∧ True ∧ True ∧ True) (by kernel_rfl) ⟨trivial, trivial, trivial, trivial, trivial, trivial, trivial, ⟨trivial, by rw [List.length_map]⟩, trivial, trivial, trivial⟩ ?_
              refine T_cond (decide (((k : Nat) : Int) < ((f.t.length : Nat) : Int))) (by kernel_rfl) (fun h24 => ?_) (fun h24 => ?_)
              · skip
                have g25 : ((k : Nat) : Int) < ((f.t.length : Nat) : Int) := of_decide_eq_true (h24)
                refine T_skip ?_
                refine T_seq ?_
                refine T_block ?_
                have lt26 : k < (f.t).length := by first | omega | (simp only [List.length_set, List.length_map, List.length_append, List.length_cons, List.length_nil] at *; omega)
                obtain ⟨x27, hx28⟩ : ∃ x, (f.t)[k]? = some x := ⟨_, List.getElem?_eq_getElem lt26⟩
                have hxs := seasons_bound (f := f) (by assumption) _ (List.mem_of_getElem? hx28)
                have hsa0 := fun (h : n = sumL 0 (wsOf f)) => share_at (f := f) (by assumption) (by omega) h (by omega) hx28
                first | (have hsa := hsa0 hS; rw [hsi] at hsa; obtain ⟨_, hq1, hq2, hq3, hq4, hq5, hq6, hq7, hq8, hq9⟩ := hsa) | skip
                first | have hsa := hsa0 hS | skip
                refine T_regE [{}, {}, {}, {}, { d := some (.agg [(I x27.c), (I x27.s)]) }, {}, {}, { d := some (I (n + x27.s)) }] (mk 117 [(1, (.one (.ref 1 0))), (3, (dt (.sl 2 ((shares f).map encPay)))), (5, (dt (I (partM f.a 50).1))), (7, (dt (I (n + x27.s)))), (8, (dt (I ((k : Nat) : Int)))), (64, (dt (B (decide (((k : Nat) : Int) < ((f.t.length : Nat) : Int)))))), (67, (dt (I n))), (68, (.one (.ref 1 4))), (69, (dt (.sl 2 (f.t.map encTrain)))), (70, (dt (I ((k : Nat) : Int)))), (71, (dt (.ptr [(I x27.c), (I x27.s)]))), (72, (dt (.ptr [(I x27.s)]))), (73, (dt (I x27.s))), (74, (dt (I (n + x27.s))))] [(1, (.var [(.dat (I f.a)), (.dat (I f.p)), (.dat (I f.m)), (.dat (I f.s)), (.dat (.sl 2 (f.t.map encTrain)))]))]) (True ∧ True ∧ True ∧ True ∧ True ∧ True ∧ True ∧ True ∧ True ∧ (0 ≤ ((k : Nat) : Int) ∧ (f.t.map encTrain)[k]? = some (.agg [(I x27.c), (I x27.s)])) ∧ True ∧ True ∧ True ∧ True ∧ True ∧ (IntKind.i64.wrap (n + x27.s) = (n + x27.s)) ∧ True ∧ True ∧ True) (by kernel_rfl) ⟨trivial, trivial, trivial, trivial, trivial, trivial, trivial, trivial, trivial, ⟨by omega, by rw [List.getElem?_map, hx28]; rfl⟩, trivial, trivial, trivial, trivial, trivial, (i64_wrap (by omega) (by omega)), trivial, trivial, trivial⟩ ?_
                refine T_regE [{}, { d := some (I ((k + 1 : Nat) : Int)) }] (mk 117 [(1, (.one (.ref 1 0))), (3, (dt (.sl 2 ((shares f).map encPay)))), (5, (dt (I (partM f.a 50).1))), (7, (dt (I (n + x27.s)))), (8, (dt (I ((k + 1 : Nat) : Int)))), (64, (dt (B (decide (((k : Nat) : Int) < ((f.t.length : Nat) : Int)))))), (65, (dt (I ((k : Nat) : Int)))), (66, (dt (I ((k + 1 : Nat) : Int)))), (67, (dt (I n))), (68, (.one (.ref 1 4))), (69, (dt (.sl 2 (f.t.map encTrain)))), (70, (dt (I ((k : Nat) : Int)))), (71, (dt (.ptr [(I x27.c), (I x27.s)]))), (72, (dt (.ptr [(I x27.s)]))), (73, (dt (I x27.s))), (74, (dt (I (n + x27.s))))] [(1, (.var [(.dat (I f.a)), (.dat (I f.p)), (.dat (I f.m)), (.dat (I f.s)), (.dat (.sl 2 (f.t.map encTrain)))]))]) (True ∧ True ∧ True ∧ (IntKind.i64.wrap (((k : Nat) : Int) + 1) = ((k + 1 : Nat) : Int)) ∧ True ∧ True ∧ True) (by kernel_rfl) ⟨trivial, trivial, trivial, (by rw [i64_wrap (by omega) (by omega)]; omega), trivial, trivial, trivial⟩ ?_
                refine Exists.intro (k + 1, (n + x27.s)) ⟨⟨by omega, by exact sumL_step iv hx28, by omega, trivial⟩, by first | omega | (dsimp only; omega), le_turn [] [1, 3, 5, 7, 8] [] (by kernel_rfl)⟩
              · skip
                have g29 : ¬ (((k : Nat) : Int) < ((f.t.length : Nat) : Int)) := of_decide_eq_false (h24)
                refine T_exit ?_
                refine T_reg [] [1, 3, 5, 7, 9] [] (mk 117 [(1, (.one (.ref 1 0))), (3, (dt (.sl 2 ((shares f).map encPay)))), (5, (dt (I (partM f.a 50).1))), (7, (dt (I n))), (9, (dt (I 0)))] [(1, (.var [(.dat (I f.a)), (.dat (I f.p)), (.dat (I f.m)), (.dat (I f.s)), (.dat (.sl 2 (f.t.map encTrain)))]))]) (True ∧ True ∧ True) (by kernel_rfl) ⟨trivial, trivial, trivial⟩ ?_
                refine T_seq ?_
                refine T_reg [] [1, 3, 5, 7, 9, 10] [] (mk 117 [(1, (.one (.ref 1 0))), (3, (dt (.sl 2 ((shares f).map encPay)))), (5, (dt (I (partM f.a 50).1))), (7, (dt (I n))), (9, (dt (I 0))), (10, (dt (I 0)))] [(1, (.var [(.dat (I f.a)), (.dat (I f.p)), (.dat (I f.m)), (.dat (I f.s)), (.dat (.sl 2 (f.t.map encTrain)))]))]) (True ∧ True ∧ True) (by kernel_rfl) ⟨trivial, trivial, trivial⟩ ?_
                refine T_block ?_
                refine T_turn [] [1, 3, 5, 7, 9, 10] [] ((fun ((j, q) : Nat × Int) => (mk 117 [(1, (.one (.ref 1 0))), (3, (dt (.sl 2 ((shares f).map encPay)))), (5, (dt (I (partM f.a 50).1))), (7, (dt (I n))), (9, (dt (I q))), (10, (dt (I ((j : Nat) : Int))))] [(1, (.var [(.dat (I f.a)), (.dat (I f.p)), (.dat (I f.m)), (.dat (I f.s)), (.dat (.sl 2 (f.t.map encTrain)))]))])) (0, 0)) (by kernel_rfl) (T_loop (α := Nat × Int) (fun ((j, q) : Nat × Int) => (mk 117 [(1, (.one (.ref 1 0))), (3, (dt (.sl 2 ((shares f).map encPay)))), (5, (dt (I (partM f.a 50).1))), (7, (dt (I n))), (9, (dt (I q))), (10, (dt (I ((j : Nat) : Int))))] [(1, (.var [(.dat (I f.a)), (.dat (I f.p)), (.dat (I f.m)), (.dat (I f.s)), (.dat (.sl 2 (f.t.map encTrain)))]))])) (fun ((j, q) : Nat × Int) => (j ≤ f.t.length) ∧ (q = sumF ((partsF f).take j)) ∧ True) (fun ((j, q) : Nat × Int) => f.t.length - j) (0, 0) ⟨Nat.zero_le _, rfl, trivial⟩ ?_)
                rintro ⟨j, q⟩ ⟨ij, iq, _⟩
                have hS := sumL_done iv (by omega)
                have htb := sumF_take_bound (f := f) (by assumption) (by omega) j
                have hsi := solid_is (f := f) (by omega)
                refine T_seq ?_
                refine T_reg [{}, {}, {}, { d := some (I ((f.t.length : Nat) : Int)) }] [1, 3, 5, 7, 9, 10, 79] [] (mk 117 [(1, (.one (.ref 1 0))), (3, (dt (.sl 2 ((shares f).map encPay)))), (5, (dt (I (partM f.a 50).1))), (7, (dt (I n))), (9, (dt (I q))), (10, (dt (I ((j : Nat) : Int)))), (79, (dt (B (decide (((j : Nat) : Int) < ((f.t.length : Nat) : Int))))))] [(1, (.var [(.dat (I f.a)), (.dat (I f.p)), (.dat (I f.m)), (.dat (I f.s)), (.dat (.sl 2 (f.t.map encTrain)))]))]) (True ∧ True ∧ True ∧ True ∧ True ∧ True ∧ True ∧ (True ∧ D.int .i64 ((f.t.map encTrain).length : Int) = (I ((f.t.length : Nat) : Int))) ∧ True ∧ True ∧ True) (by kernel_rfl) ⟨trivial, trivial, trivial, trivial, trivial, trivial, trivial, ⟨trivial, by rw [List.length_map]⟩, trivial, trivial, trivial⟩ ?_
                refine T_cond (decide (((j : Nat) : Int) < ((f.t.length : Nat) : Int))) (by kernel_rfl) (fun h30 => ?_) (fun h30 => ?_)
                · skip
                  have g31 : ((j : Nat) : Int) < ((f.t.length : Nat) : Int) := of_decide_eq_true (h30)
                  refine T_skip ?_
                  refine T_seq ?_
                  refine T_block ?_
                  have lt32 : j < (f.t).length := by first | omega | (simp only [List.length_set, List.length_map, List.length_append, List.length_cons, List.length_nil] at *; omega)
                  obtain ⟨x33, hx34⟩ : ∃ x, (f.t)[j]? = some x := ⟨_, List.getElem?_eq_getElem lt32⟩
                  have hxs := seasons_bound (f := f) (by assumption) _ (List.mem_of_getElem? hx34)
                  have hsa0 := fun (h : n = sumL 0 (wsOf f)) => share_at (f := f) (by assumption) (by omega) h (by omega) hx34
                  first | (have hsa := hsa0 hS; rw [hsi] at hsa; obtain ⟨_, hq1, hq2, hq3, hq4, hq5, hq6, hq7, hq8, hq9⟩ := hsa) | skip
                  first | have hsa := hsa0 hS | skip
                  refine T_reg [{}, {}, {}, {}, { d := some (.agg [(I x33.c), (I x33.s)]) }, {}, {}, { d := some (I (amt x33.c (shares f))) }] [1, 3, 5, 7, 9, 10, 11] [] (mk 117 [(1, (.one (.ref 1 0))), (3, (dt (.sl 2 ((shares f).map encPay)))), (5, (dt (I (partM f.a 50).1))), (7, (dt (I n))), (9, (dt (I q))), (10, (dt (I ((j : Nat) : Int)))), (11, (dt (I (amt x33.c (shares f)))))] [(1, (.var [(.dat (I f.a)), (.dat (I f.p)), (.dat (I f.m)), (.dat (I f.s)), (.dat (.sl 2 (f.t.map encTrain)))]))]) (True ∧ True ∧ True ∧ True ∧ True ∧ True ∧ True ∧ True ∧ True ∧ (0 ≤ ((j : Nat) : Int) ∧ (f.t.map encTrain)[j]? = some (.agg [(I x33.c), (I x33.s)])) ∧ True ∧ True ∧ True ∧ True ∧ True ∧ (Ret Try.prog 21 [(.sl 2 ((shares f).map encPay)), (I x33.c)] (I (amt x33.c (shares f)))) ∧ True ∧ True ∧ True) (by kernel_rfl) ⟨trivial, trivial, trivial, trivial, trivial, trivial, trivial, trivial, trivial, ⟨by omega, by rw [List.getElem?_map, hx34]; rfl⟩, trivial, trivial, trivial, trivial, trivial, (ret_amount (shares f) _ (by have := shares_len f; omega)), trivial, trivial, trivial⟩ ?_
                  refine T_reg [{}, {}, { d := some (I (q + (amt x33.c (shares f)))) }] [1, 3, 5, 7, 9, 10, 11] [] (mk 117 [(1, (.one (.ref 1 0))), (3, (dt (.sl 2 ((shares f).map encPay)))), (5, (dt (I (partM f.a 50).1))), (7, (dt (I n))), (9, (dt (I (q + (amt x33.c (shares f)))))), (10, (dt (I ((j : Nat) : Int)))), (11, (dt (I (amt x33.c (shares f)))))] [(1, (.var [(.dat (I f.a)), (.dat (I f.p)), (.dat (I f.m)), (.dat (I f.s)), (.dat (.sl 2 (f.t.map encTrain)))]))]) (True ∧ True ∧ True ∧ True ∧ True ∧ (IntKind.i64.wrap (q + (amt x33.c (shares f))) = (q + (amt x33.c (shares f)))) ∧ True ∧ True ∧ True) (by kernel_rfl) ⟨trivial, trivial, trivial, trivial, trivial, (i64_wrap (by omega) (by omega)), trivial, trivial, trivial⟩ ?_
                  refine T_reg [{}, {}, { d := some (I ((amt x33.c (shares f)) * n)) }, {}, {}, {}, {}, { d := some (.agg [(I x33.c), (I x33.s)]) }, {}, {}, { d := some (I ((partM f.a 50).1 * x33.s)) }, { d := some (I (((amt x33.c (shares f)) * n) - ((partM f.a 50).1 * x33.s))) }] [1, 3, 5, 7, 9, 10, 12] [] (mk 117 [(1, (.one (.ref 1 0))), (3, (dt (.sl 2 ((shares f).map encPay)))), (5, (dt (I (partM f.a 50).1))), (7, (dt (I n))), (9, (dt (I (q + (amt x33.c (shares f)))))), (10, (dt (I ((j : Nat) : Int)))), (12, (dt (I (((amt x33.c (shares f)) * n) - ((partM f.a 50).1 * x33.s)))))] [(1, (.var [(.dat (I f.a)), (.dat (I f.p)), (.dat (I f.m)), (.dat (I f.s)), (.dat (.sl 2 (f.t.map encTrain)))]))]) (True ∧ True ∧ True ∧ True ∧ True ∧ (IntKind.i64.wrap ((amt x33.c (shares f)) * n) = ((amt x33.c (shares f)) * n)) ∧ True ∧ True ∧ True ∧ True ∧ True ∧ True ∧ True ∧ True ∧ True ∧ (0 ≤ ((j : Nat) : Int) ∧ (f.t.map encTrain)[j]? = some (.agg [(I x33.c), (I x33.s)])) ∧ True ∧ True ∧ True ∧ True ∧ True ∧ (IntKind.i64.wrap ((partM f.a 50).1 * x33.s) = ((partM f.a 50).1 * x33.s)) ∧ True ∧ (IntKind.i64.wrap (((amt x33.c (shares f)) * n) - ((partM f.a 50).1 * x33.s)) = (((amt x33.c (shares f)) * n) - ((partM f.a 50).1 * x33.s))) ∧ True ∧ True ∧ True) (by kernel_rfl) ⟨trivial, trivial, trivial, trivial, trivial, (i64_wrap (by omega) (by omega)), trivial, trivial, trivial, trivial, trivial, trivial, trivial, trivial, trivial, ⟨by omega, by rw [List.getElem?_map, hx34]; rfl⟩, trivial, trivial, trivial, trivial, trivial, (i64_wrap (by omega) (by omega)), trivial, (i64_wrap (by omega) (by omega)), trivial, trivial, trivial⟩ ?_
                  rcases Bool.eq_false_or_eq_true (decide ((((amt x33.c (shares f)) * n) - ((partM f.a 50).1 * x33.s)) ≥ n)) with h35 | h35
                  · skip
                    have g36 : (((amt x33.c (shares f)) * n) - ((partM f.a 50).1 * x33.s)) ≥ n := of_decide_eq_true (h35)
                    exact (by exfalso; omega)
                  · skip
                    have g37 : ¬ ((((amt x33.c (shares f)) * n) - ((partM f.a 50).1 * x33.s)) ≥ n) := of_decide_eq_false (h35)
                    refine T_reg [{}, {}, {}, {}, {}, {}, { d := some (I (-n)) }, {}, { d := some (B false) }] [1, 3, 5, 7, 9, 10, 113] [] (mk 117 [(1, (.one (.ref 1 0))), (3, (dt (.sl 2 ((shares f).map encPay)))), (5, (dt (I (partM f.a 50).1))), (7, (dt (I n))), (9, (dt (I (q + (amt x33.c (shares f)))))), (10, (dt (I ((j : Nat) : Int)))), (113, (dt (B (decide ((((amt x33.c (shares f)) * n) - ((partM f.a 50).1 * x33.s)) ≤ (-n))))))] [(1, (.var [(.dat (I f.a)), (.dat (I f.p)), (.dat (I f.m)), (.dat (I f.s)), (.dat (.sl 2 (f.t.map encTrain)))]))]) (True ∧ True ∧ True ∧ True ∧ True ∧ True ∧ True ∧ True ∧ (((decide ((((amt x33.c (shares f)) * n) - ((partM f.a 50).1 * x33.s)) ≥ n)) == false) = true) ∧ True ∧ (((decide ((((amt x33.c (shares f)) * n) - ((partM f.a 50).1 * x33.s)) ≥ n)) == false) = true) ∧ True ∧ (((decide ((((amt x33.c (shares f)) * n) - ((partM f.a 50).1 * x33.s)) ≥ n)) == false) = true) ∧ (IntKind.i64.wrap (0 - n) = (-n)) ∧ (((decide ((((amt x33.c (shares f)) * n) - ((partM f.a 50).1 * x33.s)) ≥ n)) == false) = true) ∧ True ∧ True ∧ ((decide ((((amt x33.c (shares f)) * n) - ((partM f.a 50).1 * x33.s)) ≥ n)) = false) ∧ True) (by kernel_rfl) ⟨trivial, trivial, trivial, trivial, trivial, trivial, trivial, trivial, (by rw [show (decide ((((amt x33.c (shares f)) * n) - ((partM f.a 50).1 * x33.s)) ≥ n)) = false from h35]; rfl), trivial, (by rw [show (decide ((((amt x33.c (shares f)) * n) - ((partM f.a 50).1 * x33.s)) ≥ n)) = false from h35]; rfl), trivial, (by rw [show (decide ((((amt x33.c (shares f)) * n) - ((partM f.a 50).1 * x33.s)) ≥ n)) = false from h35]; rfl), (by rw [i64_wrap (by omega) (by omega)]; omega), (by rw [show (decide ((((amt x33.c (shares f)) * n) - ((partM f.a 50).1 * x33.s)) ≥ n)) = false from h35]; rfl), trivial, trivial, h35, trivial⟩ ?_
                    refine T_cond (decide ((((amt x33.c (shares f)) * n) - ((partM f.a 50).1 * x33.s)) ≤ (-n))) (by kernel_rfl) (fun h38 => ?_) (fun h38 => ?_)
                    · skip
                      have g39 : (((amt x33.c (shares f)) * n) - ((partM f.a 50).1 * x33.s)) ≤ (-n) := of_decide_eq_true (h38)
                      exact (by exfalso; omega)
                    · skip
                      have g40 : ¬ ((((amt x33.c (shares f)) * n) - ((partM f.a 50).1 * x33.s)) ≤ (-n)) := of_decide_eq_false (h38)
                      refine T_skip ?_
                      refine T_regE [{}, { d := some (I ((j + 1 : Nat) : Int)) }] (mk 117 [(1, (.one (.ref 1 0))), (3, (dt (.sl 2 ((shares f).map encPay)))), (5, (dt (I (partM f.a 50).1))), (7, (dt (I n))), (9, (dt (I (q + (amt x33.c (shares f)))))), (10, (dt (I ((j + 1 : Nat) : Int)))), (80, (dt (I ((j : Nat) : Int)))), (81, (dt (I ((j + 1 : Nat) : Int)))), (113, (dt (B (decide ((((amt x33.c (shares f)) * n) - ((partM f.a 50).1 * x33.s)) ≤ (-n))))))] [(1, (.var [(.dat (I f.a)), (.dat (I f.p)), (.dat (I f.m)), (.dat (I f.s)), (.dat (.sl 2 (f.t.map encTrain)))]))]) (True ∧ True ∧ True ∧ (IntKind.i64.wrap (((j : Nat) : Int) + 1) = ((j + 1 : Nat) : Int)) ∧ True ∧ True ∧ True) (by kernel_rfl) ⟨trivial, trivial, trivial, (by rw [i64_wrap (by omega) (by omega)]; omega), trivial, trivial, trivial⟩ ?_
                      refine Exists.intro (j + 1, (q + (amt x33.c (shares f)))) ⟨⟨by omega, by rw [sumF_snoc hsa.1, iq], trivial⟩, by first | omega | (dsimp only; omega), le_turn [] [1, 3, 5, 7, 9, 10] [] (by kernel_rfl)⟩
                · skip
                  have g41 : ¬ (((j : Nat) : Int) < ((f.t.length : Nat) : Int)) := of_decide_eq_false (h30)
                  refine T_exit ?_
                  have hpd := parts_done (f := f) (by assumption) (by omega) iq (by omega)
                  refine T_reg [] [2] [1] (mk 117 [(2, (dt (B (q == (partM f.a 50).1))))] []) (True ∧ True ∧ True ∧ True ∧ True ∧ True ∧ True ∧ True ∧ True) (by kernel_rfl) ⟨trivial, trivial, trivial, trivial, trivial, trivial, trivial, trivial, trivial⟩ ?_
                  refine T_ret ?_
                  exact ret_here [(dt (B (q == (partM f.a 50).1)))] (by kernel_rfl) (.inl (congrArg B (by first | rfl | exact beq_self_eq_true _ | (simp only [decide_eq_true_eq, beq_iff_eq, Bool.not_eq_true, bne_iff_ne, ne_eq] at *; omega) : (q == (partM f.a 50).1) = true)))

end Go.Proofs.Ythpjlkpkhlkhbaa

/-
  FeesShares returns true for every input and changes none of its arguments. No condition beside the row's own.
-/
namespace Go.Proofs.Ythpjlkpkhlkhbaa
open Go.DL Go.ChangeShapes Go.WideShapes Go.ChangeAt Go.RowKit
set_option maxRecDepth 100000
theorem shares_law_lifted (os : Os) (started : os.Started) (H : Type) (enc : TypeId × Value → H) :
    ReturnsInHanded {} Try.checked os 7 .any (Rows.feesSharesSpec.pre6 enc Try.prog Try.f7 Rows.feesSharesRow.domain false) (Rows.feesSharesSpec.post enc Try.prog Try.f7 false true false false) := by
  refine returnsInHanded_of_change_sized (C := Try.checked) Try.own started (by kernel_rfl) Try.func7
    (ChangeSpec.witness6 (enc := enc) (C := Try.checked) false ⟨#[], #[.agg #[.int .i64 0, .int .i64 0, .int .i64 0, .int .i64 0, .slice none 0 0]], []⟩ 8 (by kernel_rfl) (by kernel_rfl) (by kernel_rfl) (by kernel_rfl)) ?_
  intro W base args ds gs before hval0 hW hcnd hwt0 _
  have hval : ∀ (j : Nat) t v, Try.f7.params[j]? = some t → args[j]? = some v → Value.okWide Try.prog W .any base t v := hval0
  have hwt : (DataW.weightsEach Try.prog (Try.f7.params.toList ++ Rows.feesSharesSpec.plain.varTypes Try.prog) (ds ++ gs)).all (· ≤ reachBytes) = true := hwt0
  clear hval0 hwt0
  have hW' := hW
  obtain ⟨p, q, hA0, hV, rfl, hfz, hnd⟩ := hW
  have hA : DataW.TrodAll enc Try.prog W 0 (fun _ => true) true Try.f7.params.toList args.toList ds p := hA0
  rw [Try.params7] at hA hval
  obtain ⟨v0, d0, rfl, rfl, h0⟩ := trodAll_one hA
  obtain ⟨rfl, rfl⟩ := trodVars_none hV
  have hw : ∀ n ∈ DataW.weightsEach Try.prog [24] [d0], n ≤ reachBytes := by
    intro n hn
    have := List.all_eq_true.1 hwt n hn
    exact of_decide_eq_true this
  simp only [DataW.weightsEach, List.mem_append] at hw
  obtain ⟨a0, r0, g0⟩ := arg_agg decFee h0 (hval 0 24 v0 rfl rfl) (by kernel_rfl)
  have k0 := g0 fun n hn => hw n (.inl hn)
  exact law_call hW' Try.laidOut (by intro t ht; rw [Try.params7] at ht; simp at ht; rcases ht with rfl <;> exact ⟨by kernel_rfl, of_decide_eq_true (by kernel_rfl)⟩) 4 (by kernel_rfl) undBool rfl rfl
    [_] rfl (fun j c hj => match j, hj with
      | 0, hj => by simp at hj; subst hj; exact ⟨v0, rfl, r0⟩
      | j + 1, hj => by simp at hj) (ret_law_shares _ k0)

theorem shares_law_holds : Rows.FeesSharesSaid :=
  OpenClaim.holds_of_wide 7 Try.f7 rfl rfl rfl rfl rfl rfl rfl ⟨rfl, rfl, rfl, rfl, rfl⟩ rfl rfl rfl rfl rfl (by kernel_rfl) Try.func7 (by kernel_rfl)
    (of_decide_eq_true (by kernel_rfl)) (by unfold Func.isWrapper; first | (rw [if_pos (by decide +kernel)]; kernel_rfl) | (rw [if_neg (by decide +kernel)]; exact ⟨rfl, rfl⟩))
    (fun os started H enc _ => shares_law_lifted os started H enc)
#print axioms shares_law_holds
end Go.Proofs.Ythpjlkpkhlkhbaa
