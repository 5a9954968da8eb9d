/-
  Texts that belong together, one behind the other; what each of them proves, and under which conditions, its own heading says.
-/
import Derived.Test.YthpjlkpkhlkhbaaRows
import Derived.Test.YthpjlkpkhlkhbaaKf
/-
  Walks at the data level, printed by gen.py: what each Go function returns, for data that reads as said. Conditions: those of each theorem.
-/
namespace Go.Proofs.Ythpjlkpkhlkhbaa
open Go.DL
set_option maxRecDepth 100000
set_option linter.unusedVariables false
set_option linter.unusedSimpArgs false
theorem ret_law_seller (f : Fee) (a b : Int) (ht : f.t.length ≤ 140737488355328) : Ret Try.prog 6 [(.agg [(I f.a), (I f.p), (I f.m), (I f.s), (.sl 2 (f.t.map encTrain))]), (I a), (I b)] (B true) := by
  have hpz : ∀ q, paysE f q = 0 → chk f = 0 ∧ (profit f).2 = 0 ∧ 0 ≤ f.a ∧ f.a ≤ 1125899906842624 := fun q h => ⟨(pays_eq h).2.1, profit_err (pays_eq h).2.1, paysE_amount h⟩
  have hpb := profit_bounds (f := f)
  have hsl := shares_len f
  have hna : paysE f a ≠ 0 → (pays f a).length = 0 := fun h => len_zero (pays_nil h).1
  have hnb : paysE f b ≠ 0 → (pays f b).length = 0 := fun h => len_zero (pays_nil h).1
  refine Ret.of_T Try.func6 (by kernel_rfl) rfl ?_
  refine T_turn [] [0, 1, 2] [] (mk 87 [(0, (.agg [(.dat (I f.a)), (.dat (I f.p)), (.dat (I f.m)), (.dat (I f.s)), (.dat (.sl 2 (f.t.map encTrain)))])), (1, (dt (I a))), (2, (dt (I b)))] []) (by kernel_rfl) ?_
  refine T_reg [] [1, 2, 3] [] (mk 87 [(1, (dt (I a))), (2, (dt (I b))), (3, (.one (.ref 3 0)))] [(3, (.var [(.dat (I f.a)), (.dat (I f.p)), (.dat (I f.m)), (.dat (I f.s)), (.dat (.sl 2 (f.t.map encTrain)))]))]) (True ∧ True ∧ True ∧ True ∧ True) (by kernel_rfl) ⟨trivial, trivial, trivial, trivial, trivial⟩ ?_
  refine T_seq ?_
  refine T_reg [{ d := some (B true) }] [1, 2, 3, 13] [] (mk 87 [(1, (dt (I a))), (2, (dt (I b))), (3, (.one (.ref 3 0))), (13, (dt (B false)))] [(3, (.var [(.dat (I f.a)), (.dat (I f.p)), (.dat (I f.m)), (.dat (I f.s)), (.dat (.sl 2 (f.t.map encTrain)))]))]) (True ∧ (Ret Try.prog 10 [] (B true)) ∧ True ∧ True ∧ True) (by kernel_rfl) ⟨trivial, ret_sane, trivial, trivial, trivial⟩ ?_
  refine T_cond false (by kernel_rfl) (fun h => absurd (h.symm.trans rfl) (by decide)) (fun _ => ?_)
  refine T_skip ?_
  refine T_seq ?_
  refine T_reg [{}, { d := some (B (decide (f.t.length ≤ 60))) }] [1, 2, 3, 16] [] (mk 87 [(1, (dt (I a))), (2, (dt (I b))), (3, (.one (.ref 3 0))), (16, (dt (B (!(decide (f.t.length ≤ 60))))))] [(3, (.var [(.dat (I f.a)), (.dat (I f.p)), (.dat (I f.m)), (.dat (I f.s)), (.dat (.sl 2 (f.t.map encTrain)))]))]) (True ∧ True ∧ True ∧ (Ret Try.prog 11 [(.agg [(I f.a), (I f.p), (I f.m), (I f.s), (.sl 2 (f.t.map encTrain))])] (B (decide (f.t.length ≤ 60)))) ∧ True ∧ True ∧ True) (by kernel_rfl) ⟨trivial, trivial, trivial, (ret_few f (by first | assumption | (simp; done) | decide)), trivial, trivial, trivial⟩ ?_
  refine T_cond (!(decide (f.t.length ≤ 60))) (by kernel_rfl) (fun h1 => ?_) (fun h1 => ?_)
  · skip
    have n2 : (decide (f.t.length ≤ 60)) = false := not_t h1
    have g3 : ¬ (f.t.length ≤ 60) := of_decide_eq_false (n2)
    refine T_reg [] [6] [3] (mk 87 [(6, (dt (B true)))] []) (True ∧ True ∧ True) (by kernel_rfl) ⟨trivial, trivial, trivial⟩ ?_
    refine T_ret ?_
    exact ret_here [(dt (B true))] (by kernel_rfl) (.inl rfl)
  · skip
    have n4 : (decide (f.t.length ≤ 60)) = true := not_f h1
    have g5 : (f.t.length ≤ 60) := of_decide_eq_true (n4)
    refine T_skip ?_
    refine T_reg [{}, {}, { d := some (.tup [(.sl 2 ((pays f a).map encPay)), (I (paysE f a))]) }] [1, 2, 3, 7, 8] [] (mk 87 [(1, (dt (I a))), (2, (dt (I b))), (3, (.one (.ref 3 0))), (7, (dt (.sl 2 ((pays f a).map encPay)))), (8, (dt (I (paysE f a))))] [(3, (.var [(.dat (I f.a)), (.dat (I f.p)), (.dat (I f.m)), (.dat (I f.s)), (.dat (.sl 2 (f.t.map encTrain)))]))]) (True ∧ True ∧ True ∧ True ∧ True ∧ (Ret Try.prog 19 [(.agg [(I f.a), (I f.p), (I f.m), (I f.s), (.sl 2 (f.t.map encTrain))]), (I a)] (.tup [(.sl 2 ((pays f a).map encPay)), (I (paysE f a))])) ∧ True ∧ True ∧ True ∧ True ∧ True ∧ True ∧ True ∧ True ∧ True ∧ True ∧ True) (by kernel_rfl) ⟨trivial, trivial, trivial, trivial, trivial, (ret_pays f a (by first | assumption | (simp; done) | decide)), trivial, trivial, trivial, trivial, trivial, trivial, trivial, trivial, trivial, trivial, trivial⟩ ?_
    refine T_reg [{}, {}, { d := some (.tup [(.sl 2 ((pays f b).map encPay)), (I (paysE f b))]) }] [1, 2, 7, 8, 9, 10] [3] (mk 87 [(1, (dt (I a))), (2, (dt (I b))), (7, (dt (.sl 2 ((pays f a).map encPay)))), (8, (dt (I (paysE f a)))), (9, (dt (.sl 2 ((pays f b).map encPay)))), (10, (dt (I (paysE f b))))] []) (True ∧ True ∧ True ∧ True ∧ True ∧ (Ret Try.prog 19 [(.agg [(I f.a), (I f.p), (I f.m), (I f.s), (.sl 2 (f.t.map encTrain))]), (I b)] (.tup [(.sl 2 ((pays f b).map encPay)), (I (paysE f b))])) ∧ True ∧ True ∧ True ∧ True ∧ True ∧ True ∧ True ∧ True ∧ True ∧ True ∧ True) (by kernel_rfl) ⟨trivial, trivial, trivial, trivial, trivial, (ret_pays f b (by first | assumption | (simp; done) | decide)), trivial, trivial, trivial, trivial, trivial, trivial, trivial, trivial, trivial, trivial, trivial⟩ ?_
    refine T_seq ?_
    rcases Bool.eq_false_or_eq_true ((paysE f a) != 0) with h6 | h6
    · skip
      have g7 : (paysE f a) ≠ 0 := bne_iff_ne.1 (h6)
      refine T_reg [{}, {}, {}, { g := false }, { g := false }, { d := some (B true) }] [1, 2, 7, 8, 9, 10, 34] [] (mk 87 [(1, (dt (I a))), (2, (dt (I b))), (7, (dt (.sl 2 ((pays f a).map encPay)))), (8, (dt (I (paysE f a)))), (9, (dt (.sl 2 ((pays f b).map encPay)))), (10, (dt (I (paysE f b)))), (34, (dt (B true)))] []) (True ∧ True ∧ True ∧ True ∧ True ∧ True ∧ ((((paysE f a) != 0) == false) = false) ∧ ((((paysE f a) != 0) == false) = false) ∧ True ∧ (((paysE f a) != 0) = true) ∧ True) (by kernel_rfl) ⟨trivial, trivial, trivial, trivial, trivial, trivial, (by rw [show ((paysE f a) != 0) = true from h6]; rfl), (by rw [show ((paysE f a) != 0) = true from h6]; rfl), trivial, h6, trivial⟩ ?_
      refine T_cond true (by kernel_rfl) (fun _ => ?_) (fun h => absurd (h.symm.trans rfl) (by decide))
      rcases Bool.eq_false_or_eq_true ((((pays f a).length : Nat) : Int) == 0) with h8 | h8
      · skip
        have g9 : (((pays f a).length : Nat) : Int) = 0 := eq_of_beq (h8)
        refine T_reg [{}, {}, {}, {}, { d := some (I (((pays f a).length : Nat) : Int)) }, {}, { d := some (B true) }, {}, { g := false }, { g := false }, { g := false }, {}, {}, {}, { g := false }, { d := some (B true) }] [6] [] (mk 87 [(6, (dt (B true)))] []) (True ∧ True ∧ True ∧ True ∧ True ∧ True ∧ ((((paysE f a) != 0) == true) = true) ∧ True ∧ ((((paysE f a) != 0) == true) = true) ∧ (True ∧ D.int .i64 (((pays f a).map encPay).length : Int) = (I (((pays f a).length : Nat) : Int))) ∧ ((((paysE f a) != 0) == true) = true) ∧ True ∧ True ∧ (((paysE f a) != 0) = true) ∧ True ∧ True ∧ ((((((pays f a).length : Nat) : Int) == 0) == false) = false) ∧ ((((((pays f a).length : Nat) : Int) == 0) == false) = false) ∧ ((((((pays f a).length : Nat) : Int) == 0) == false) = false) ∧ True ∧ True ∧ True ∧ ((((((pays f a).length : Nat) : Int) == 0) == false) = false) ∧ True ∧ (((((pays f a).length : Nat) : Int) == 0) = true) ∧ True ∧ True ∧ True) (by kernel_rfl) ⟨trivial, trivial, trivial, trivial, trivial, trivial, (by rw [show ((paysE f a) != 0) = true from h6]; rfl), trivial, (by rw [show ((paysE f a) != 0) = true from h6]; rfl), ⟨trivial, by rw [List.length_map]⟩, (by rw [show ((paysE f a) != 0) = true from h6]; rfl), trivial, trivial, h6, trivial, trivial, (by rw [show ((((pays f a).length : Nat) : Int) == 0) = true from h8]; rfl), (by rw [show ((((pays f a).length : Nat) : Int) == 0) = true from h8]; rfl), (by rw [show ((((pays f a).length : Nat) : Int) == 0) = true from h8]; rfl), trivial, trivial, trivial, (by rw [show ((((pays f a).length : Nat) : Int) == 0) = true from h8]; rfl), trivial, h8, trivial, trivial, trivial⟩ ?_
        refine T_ret ?_
        exact ret_here [(dt (B true))] (by kernel_rfl) (.inl rfl)
      · skip
        have g10 : (((pays f a).length : Nat) : Int) ≠ 0 := ne_of_beq_false (h8)
        rcases Bool.eq_false_or_eq_true ((paysE f b) != 0) with h11 | h11
        · skip
          have g12 : (paysE f b) ≠ 0 := bne_iff_ne.1 (h11)
          refine T_reg [{}, {}, {}, {}, { d := some (I (((pays f a).length : Nat) : Int)) }, {}, { d := some (B true) }, {}, {}, {}, {}, {}, { d := some (I (((pays f b).length : Nat) : Int)) }, {}, { d := some (B true) }, { d := some (B false) }] [6] [] (mk 87 [(6, (dt (B ((((pays f b).length : Nat) : Int) == 0))))] []) (True ∧ True ∧ True ∧ True ∧ True ∧ True ∧ ((((paysE f a) != 0) == true) = true) ∧ True ∧ ((((paysE f a) != 0) == true) = true) ∧ (True ∧ D.int .i64 (((pays f a).map encPay).length : Int) = (I (((pays f a).length : Nat) : Int))) ∧ ((((paysE f a) != 0) == true) = true) ∧ True ∧ True ∧ (((paysE f a) != 0) = true) ∧ True ∧ True ∧ ((((((pays f a).length : Nat) : Int) == 0) == false) = true) ∧ True ∧ ((((((pays f a).length : Nat) : Int) == 0) == false) = true) ∧ True ∧ ((((((pays f a).length : Nat) : Int) == 0) == false) = true) ∧ True ∧ ((((paysE f b) != 0) == true) = true) ∧ True ∧ ((((paysE f b) != 0) == true) = true) ∧ (True ∧ D.int .i64 (((pays f b).map encPay).length : Int) = (I (((pays f b).length : Nat) : Int))) ∧ ((((paysE f b) != 0) == true) = true) ∧ True ∧ ((((((pays f a).length : Nat) : Int) == 0) == false) = true) ∧ (((paysE f b) != 0) = true) ∧ True ∧ (((((pays f a).length : Nat) : Int) == 0) = false) ∧ True ∧ True ∧ True) (by kernel_rfl) ⟨trivial, trivial, trivial, trivial, trivial, trivial, (by rw [show ((paysE f a) != 0) = true from h6]; rfl), trivial, (by rw [show ((paysE f a) != 0) = true from h6]; rfl), ⟨trivial, by rw [List.length_map]⟩, (by rw [show ((paysE f a) != 0) = true from h6]; rfl), trivial, trivial, h6, trivial, trivial, (by rw [show ((((pays f a).length : Nat) : Int) == 0) = false from h8]; rfl), trivial, (by rw [show ((((pays f a).length : Nat) : Int) == 0) = false from h8]; rfl), trivial, (by rw [show ((((pays f a).length : Nat) : Int) == 0) = false from h8]; rfl), trivial, (by rw [show ((paysE f b) != 0) = true from h11]; rfl), trivial, (by rw [show ((paysE f b) != 0) = true from h11]; rfl), ⟨trivial, by rw [List.length_map]⟩, (by rw [show ((paysE f b) != 0) = true from h11]; rfl), trivial, (by rw [show ((((pays f a).length : Nat) : Int) == 0) = false from h8]; rfl), h11, trivial, h8, trivial, trivial, trivial⟩ ?_
          refine T_ret ?_
          exact ret_here [(dt (B ((((pays f b).length : Nat) : Int) == 0)))] (by kernel_rfl) (.inl (congrArg B (by first | rfl | exact beq_self_eq_true _ | (simp only [decide_eq_true_eq, beq_iff_eq, Bool.not_eq_true, bne_iff_ne, ne_eq] at *; omega) : ((((pays f b).length : Nat) : Int) == 0) = true)))
        · skip
          have g13 : (paysE f b) = 0 := bne_f (h11)
          refine T_reg [{}, {}, {}, {}, { d := some (I (((pays f a).length : Nat) : Int)) }, {}, { d := some (B true) }, {}, {}, {}, {}, { g := false }, { g := false }, { g := false }, { d := some (B false) }, { d := some (B false) }] [6] [] (mk 87 [(6, (dt (B false)))] []) (True ∧ True ∧ True ∧ True ∧ True ∧ True ∧ ((((paysE f a) != 0) == true) = true) ∧ True ∧ ((((paysE f a) != 0) == true) = true) ∧ (True ∧ D.int .i64 (((pays f a).map encPay).length : Int) = (I (((pays f a).length : Nat) : Int))) ∧ ((((paysE f a) != 0) == true) = true) ∧ True ∧ True ∧ (((paysE f a) != 0) = true) ∧ True ∧ True ∧ ((((((pays f a).length : Nat) : Int) == 0) == false) = true) ∧ True ∧ ((((((pays f a).length : Nat) : Int) == 0) == false) = true) ∧ True ∧ ((((((pays f a).length : Nat) : Int) == 0) == false) = true) ∧ True ∧ ((((paysE f b) != 0) == true) = false) ∧ ((((paysE f b) != 0) == true) = false) ∧ ((((paysE f b) != 0) == true) = false) ∧ ((((((pays f a).length : Nat) : Int) == 0) == false) = true) ∧ (((paysE f b) != 0) = false) ∧ True ∧ (((((pays f a).length : Nat) : Int) == 0) = false) ∧ True ∧ True ∧ True) (by kernel_rfl) ⟨trivial, trivial, trivial, trivial, trivial, trivial, (by rw [show ((paysE f a) != 0) = true from h6]; rfl), trivial, (by rw [show ((paysE f a) != 0) = true from h6]; rfl), ⟨trivial, by rw [List.length_map]⟩, (by rw [show ((paysE f a) != 0) = true from h6]; rfl), trivial, trivial, h6, trivial, trivial, (by rw [show ((((pays f a).length : Nat) : Int) == 0) = false from h8]; rfl), trivial, (by rw [show ((((pays f a).length : Nat) : Int) == 0) = false from h8]; rfl), trivial, (by rw [show ((((pays f a).length : Nat) : Int) == 0) = false from h8]; rfl), trivial, (by rw [show ((paysE f b) != 0) = false from h11]; rfl), (by rw [show ((paysE f b) != 0) = false from h11]; rfl), (by rw [show ((paysE f b) != 0) = false from h11]; rfl), (by rw [show ((((pays f a).length : Nat) : Int) == 0) = false from h8]; rfl), h11, trivial, h8, trivial, trivial, trivial⟩ ?_
          refine T_ret ?_
          exact ret_here [(dt (B false))] (by kernel_rfl) (.inl (congrArg B (by first | rfl | exact beq_self_eq_true _ | (simp only [decide_eq_true_eq, beq_iff_eq, Bool.not_eq_true, bne_iff_ne, ne_eq] at *; omega) : false = true)))
    · skip
      have g14 : (paysE f a) = 0 := bne_f (h6)
      refine T_reg [{}, {}, {}, {}, {}, { d := some (B false) }] [1, 2, 7, 8, 9, 10, 34] [] (mk 87 [(1, (dt (I a))), (2, (dt (I b))), (7, (dt (.sl 2 ((pays f a).map encPay)))), (8, (dt (I (paysE f a)))), (9, (dt (.sl 2 ((pays f b).map encPay)))), (10, (dt (I (paysE f b)))), (34, (dt (B ((paysE f b) != 0))))] []) (True ∧ True ∧ True ∧ True ∧ True ∧ True ∧ ((((paysE f a) != 0) == false) = true) ∧ True ∧ ((((paysE f a) != 0) == false) = true) ∧ True ∧ True ∧ (((paysE f a) != 0) = false) ∧ True) (by kernel_rfl) ⟨trivial, trivial, trivial, trivial, trivial, trivial, (by rw [show ((paysE f a) != 0) = false from h6]; rfl), trivial, (by rw [show ((paysE f a) != 0) = false from h6]; rfl), trivial, trivial, h6, trivial⟩ ?_
      refine T_cond ((paysE f b) != 0) (by kernel_rfl) (fun h15 => ?_) (fun h15 => ?_)
      · skip
        have g16 : (paysE f b) ≠ 0 := bne_iff_ne.1 (h15)
        refine T_reg [{}, {}, {}, { g := false }, { g := false }, { g := false }, { d := some (B false) }, {}, {}, {}, {}, {}, { d := some (I (((pays f b).length : Nat) : Int)) }, {}, { d := some (B true) }, { d := some (B false) }] [6] [] (mk 87 [(6, (dt (B ((((pays f b).length : Nat) : Int) == 0))))] []) (True ∧ True ∧ True ∧ True ∧ True ∧ True ∧ ((((paysE f a) != 0) == true) = false) ∧ ((((paysE f a) != 0) == true) = false) ∧ ((((paysE f a) != 0) == true) = false) ∧ True ∧ (((paysE f a) != 0) = false) ∧ True ∧ True ∧ ((false == false) = true) ∧ True ∧ ((false == false) = true) ∧ True ∧ ((false == false) = true) ∧ True ∧ ((((paysE f b) != 0) == true) = true) ∧ True ∧ ((((paysE f b) != 0) == true) = true) ∧ (True ∧ D.int .i64 (((pays f b).map encPay).length : Int) = (I (((pays f b).length : Nat) : Int))) ∧ ((((paysE f b) != 0) == true) = true) ∧ True ∧ ((false == false) = true) ∧ (((paysE f b) != 0) = true) ∧ True ∧ (false = false) ∧ True ∧ True ∧ True) (by kernel_rfl) ⟨trivial, trivial, trivial, trivial, trivial, trivial, (by rw [show ((paysE f a) != 0) = false from h6]; rfl), (by rw [show ((paysE f a) != 0) = false from h6]; rfl), (by rw [show ((paysE f a) != 0) = false from h6]; rfl), trivial, h6, trivial, trivial, (by rw [show false = false from rfl]; rfl), trivial, (by rw [show false = false from rfl]; rfl), trivial, (by rw [show false = false from rfl]; rfl), trivial, (by rw [show ((paysE f b) != 0) = true from h15]; rfl), trivial, (by rw [show ((paysE f b) != 0) = true from h15]; rfl), ⟨trivial, by rw [List.length_map]⟩, (by rw [show ((paysE f b) != 0) = true from h15]; rfl), trivial, (by rw [show false = false from rfl]; rfl), h15, trivial, rfl, trivial, trivial, trivial⟩ ?_
        refine T_ret ?_
        exact ret_here [(dt (B ((((pays f b).length : Nat) : Int) == 0)))] (by kernel_rfl) (.inl (congrArg B (by first | rfl | exact beq_self_eq_true _ | (simp only [decide_eq_true_eq, beq_iff_eq, Bool.not_eq_true, bne_iff_ne, ne_eq] at *; omega) : ((((pays f b).length : Nat) : Int) == 0) = true)))
      · skip
        have g17 : (paysE f b) = 0 := bne_f (h15)
        refine T_skip ?_
        refine T_seq ?_
        refine T_reg [] [1, 2, 7, 9, 11] [] (mk 87 [(1, (dt (I a))), (2, (dt (I b))), (7, (dt (.sl 2 ((pays f a).map encPay)))), (9, (dt (.sl 2 ((pays f b).map encPay)))), (11, (dt (I 0)))] []) (True ∧ True ∧ True) (by kernel_rfl) ⟨trivial, trivial, trivial⟩ ?_
        refine T_block ?_
        refine T_turn [] [1, 2, 7, 9, 11] [] ((fun (c : Nat) => (mk 87 [(1, (dt (I a))), (2, (dt (I b))), (7, (dt (.sl 2 ((pays f a).map encPay)))), (9, (dt (.sl 2 ((pays f b).map encPay)))), (11, (dt (I ((c : Nat) : Int))))] [])) (0)) (by kernel_rfl) (T_loop (α := Nat) (fun (c : Nat) => (mk 87 [(1, (dt (I a))), (2, (dt (I b))), (7, (dt (.sl 2 ((pays f a).map encPay)))), (9, (dt (.sl 2 ((pays f b).map encPay)))), (11, (dt (I ((c : Nat) : Int))))] [])) (fun (c : Nat) => (c ≤ 192) ∧ True) (fun (c : Nat) => 192 - c) (0) ⟨Nat.zero_le _, trivial⟩ ?_)
        rintro c ⟨ic, _⟩
        refine T_seq ?_
        refine T_reg [] [1, 2, 7, 9, 11, 52] [] (mk 87 [(1, (dt (I a))), (2, (dt (I b))), (7, (dt (.sl 2 ((pays f a).map encPay)))), (9, (dt (.sl 2 ((pays f b).map encPay)))), (11, (dt (I ((c : Nat) : Int)))), (52, (dt (B (decide (((c : Nat) : Int) < 192)))))] []) (True ∧ True ∧ True ∧ True ∧ True) (by kernel_rfl) ⟨trivial, trivial, trivial, trivial, trivial⟩ ?_
        refine T_cond (decide (((c : Nat) : Int) < 192)) (by kernel_rfl) (fun h18 => ?_) (fun h18 => ?_)
        · skip
          have g19 : ((c : Nat) : Int) < 192 := of_decide_eq_true (h18)
          refine T_skip ?_
          refine T_seq ?_
          refine T_block ?_
          rcases Bool.eq_false_or_eq_true (((c : Nat) : Int) != a) with h20 | h20
          · skip
            have g21 : ((c : Nat) : Int) ≠ a := bne_iff_ne.1 (h20)
            rcases Bool.eq_false_or_eq_true (((c : Nat) : Int) != b) with h22 | h22
            · skip
              have g23 : ((c : Nat) : Int) ≠ b := bne_iff_ne.1 (h22)
              refine T_reg [{}, {}, {}, {}, {}, {}, {}, { d := some (B true) }, {}, {}, {}, { d := some (I (amt ((c : Nat) : Int) (pays f a))) }, {}, {}, { d := some (I (amt ((c : Nat) : Int) (pays f b))) }, {}, { d := some (B true) }] [1, 2, 7, 9, 11, 71] [] (mk 87 [(1, (dt (I a))), (2, (dt (I b))), (7, (dt (.sl 2 ((pays f a).map encPay)))), (9, (dt (.sl 2 ((pays f b).map encPay)))), (11, (dt (I ((c : Nat) : Int)))), (71, (dt (B ((amt ((c : Nat) : Int) (pays f a)) != (amt ((c : Nat) : Int) (pays f b))))))] []) (True ∧ True ∧ True ∧ True ∧ True ∧ True ∧ True ∧ True ∧ (((((c : Nat) : Int) != a) == true) = true) ∧ True ∧ (((((c : Nat) : Int) != a) == true) = true) ∧ True ∧ (((((c : Nat) : Int) != a) == true) = true) ∧ True ∧ True ∧ ((((c : Nat) : Int) != a) = true) ∧ True ∧ True ∧ (((((c : Nat) : Int) != b) == true) = true) ∧ True ∧ (((((c : Nat) : Int) != b) == true) = true) ∧ True ∧ (((((c : Nat) : Int) != b) == true) = true) ∧ (Ret Try.prog 21 [(.sl 2 ((pays f a).map encPay)), (I ((c : Nat) : Int))] (I (amt ((c : Nat) : Int) (pays f a)))) ∧ (((((c : Nat) : Int) != b) == true) = true) ∧ True ∧ (((((c : Nat) : Int) != b) == true) = true) ∧ True ∧ (((((c : Nat) : Int) != b) == true) = true) ∧ (Ret Try.prog 21 [(.sl 2 ((pays f b).map encPay)), (I ((c : Nat) : Int))] (I (amt ((c : Nat) : Int) (pays f b)))) ∧ (((((c : Nat) : Int) != b) == true) = true) ∧ True ∧ True ∧ ((((c : Nat) : Int) != b) = true) ∧ True) (by kernel_rfl) ⟨trivial, trivial, trivial, trivial, trivial, trivial, trivial, trivial, (by rw [show (((c : Nat) : Int) != a) = true from h20]; rfl), trivial, (by rw [show (((c : Nat) : Int) != a) = true from h20]; rfl), trivial, (by rw [show (((c : Nat) : Int) != a) = true from h20]; rfl), trivial, trivial, h20, trivial, trivial, (by rw [show (((c : Nat) : Int) != b) = true from h22]; rfl), trivial, (by rw [show (((c : Nat) : Int) != b) = true from h22]; rfl), trivial, (by rw [show (((c : Nat) : Int) != b) = true from h22]; rfl), (ret_amount (pays f a) _ (by have := pays_len f a; omega)), (by rw [show (((c : Nat) : Int) != b) = true from h22]; rfl), trivial, (by rw [show (((c : Nat) : Int) != b) = true from h22]; rfl), trivial, (by rw [show (((c : Nat) : Int) != b) = true from h22]; rfl), (ret_amount (pays f b) _ (by have := pays_len f b; omega)), (by rw [show (((c : Nat) : Int) != b) = true from h22]; rfl), trivial, trivial, h22, trivial⟩ ?_
              refine T_cond ((amt ((c : Nat) : Int) (pays f a)) != (amt ((c : Nat) : Int) (pays f b))) (by kernel_rfl) (fun h24 => ?_) (fun h24 => ?_)
              · skip
                have g25 : (amt ((c : Nat) : Int) (pays f a)) ≠ (amt ((c : Nat) : Int) (pays f b)) := bne_iff_ne.1 (h24)
                exact (by exfalso; exact absurd (seller_one (f := f) (a := a) (b := b) (c := ((c : Nat) : Int)) (by assumption) (by assumption) (by omega) (by assumption) (by assumption)) (by assumption))
              · skip
                have g26 : (amt ((c : Nat) : Int) (pays f a)) = (amt ((c : Nat) : Int) (pays f b)) := bne_f (h24)
                refine T_skip ?_
                refine T_regE [{}, { d := some (I ((c + 1 : Nat) : Int)) }] (mk 87 [(1, (dt (I a))), (2, (dt (I b))), (7, (dt (.sl 2 ((pays f a).map encPay)))), (9, (dt (.sl 2 ((pays f b).map encPay)))), (11, (dt (I ((c + 1 : Nat) : Int)))), (53, (dt (I ((c : Nat) : Int)))), (54, (dt (I ((c + 1 : Nat) : Int)))), (71, (dt (B ((amt ((c : Nat) : Int) (pays f a)) != (amt ((c : Nat) : Int) (pays f b))))))] []) (True ∧ True ∧ True ∧ (IntKind.i64.wrap (((c : Nat) : Int) + 1) = ((c + 1 : Nat) : Int)) ∧ True ∧ True ∧ True) (by kernel_rfl) ⟨trivial, trivial, trivial, (by rw [i64_wrap (by omega) (by omega)]; omega), trivial, trivial, trivial⟩ ?_
                refine Exists.intro (c + 1) ⟨⟨by omega, trivial⟩, by first | omega | (dsimp only; omega), le_turn [] [1, 2, 7, 9, 11] [] (by kernel_rfl)⟩
            · skip
              have g27 : ((c : Nat) : Int) = b := bne_f (h22)
              refine T_reg [{}, {}, {}, {}, {}, {}, {}, { d := some (B true) }, {}, { g := false }, { g := false }, { g := false }, { g := false }, { g := false }, { g := false }, { g := false }, { d := some (B false) }] [1, 2, 7, 9, 11, 71] [] (mk 87 [(1, (dt (I a))), (2, (dt (I b))), (7, (dt (.sl 2 ((pays f a).map encPay)))), (9, (dt (.sl 2 ((pays f b).map encPay)))), (11, (dt (I ((c : Nat) : Int)))), (71, (dt (B false)))] []) (True ∧ True ∧ True ∧ True ∧ True ∧ True ∧ True ∧ True ∧ (((((c : Nat) : Int) != a) == true) = true) ∧ True ∧ (((((c : Nat) : Int) != a) == true) = true) ∧ True ∧ (((((c : Nat) : Int) != a) == true) = true) ∧ True ∧ True ∧ ((((c : Nat) : Int) != a) = true) ∧ True ∧ True ∧ (((((c : Nat) : Int) != b) == true) = false) ∧ (((((c : Nat) : Int) != b) == true) = false) ∧ (((((c : Nat) : Int) != b) == true) = false) ∧ (((((c : Nat) : Int) != b) == true) = false) ∧ (((((c : Nat) : Int) != b) == true) = false) ∧ (((((c : Nat) : Int) != b) == true) = false) ∧ (((((c : Nat) : Int) != b) == true) = false) ∧ True ∧ ((((c : Nat) : Int) != b) = false) ∧ True) (by kernel_rfl) ⟨trivial, trivial, trivial, trivial, trivial, trivial, trivial, trivial, (by rw [show (((c : Nat) : Int) != a) = true from h20]; rfl), trivial, (by rw [show (((c : Nat) : Int) != a) = true from h20]; rfl), trivial, (by rw [show (((c : Nat) : Int) != a) = true from h20]; rfl), trivial, trivial, h20, trivial, trivial, (by rw [show (((c : Nat) : Int) != b) = false from h22]; rfl), (by rw [show (((c : Nat) : Int) != b) = false from h22]; rfl), (by rw [show (((c : Nat) : Int) != b) = false from h22]; rfl), (by rw [show (((c : Nat) : Int) != b) = false from h22]; rfl), (by rw [show (((c : Nat) : Int) != b) = false from h22]; rfl), (by rw [show (((c : Nat) : Int) != b) = false from h22]; rfl), (by rw [show (((c : Nat) : Int) != b) = false from h22]; rfl), trivial, h22, trivial⟩ ?_
              refine T_cond false (by kernel_rfl) (fun h => absurd (h.symm.trans rfl) (by decide)) (fun _ => ?_)
              refine T_skip ?_
              refine T_regE [{}, { d := some (I ((c + 1 : Nat) : Int)) }] (mk 87 [(1, (dt (I a))), (2, (dt (I b))), (7, (dt (.sl 2 ((pays f a).map encPay)))), (9, (dt (.sl 2 ((pays f b).map encPay)))), (11, (dt (I ((c + 1 : Nat) : Int)))), (53, (dt (I ((c : Nat) : Int)))), (54, (dt (I ((c + 1 : Nat) : Int)))), (71, (dt (B false)))] []) (True ∧ True ∧ True ∧ (IntKind.i64.wrap (((c : Nat) : Int) + 1) = ((c + 1 : Nat) : Int)) ∧ True ∧ True ∧ True) (by kernel_rfl) ⟨trivial, trivial, trivial, (by rw [i64_wrap (by omega) (by omega)]; omega), trivial, trivial, trivial⟩ ?_
              refine Exists.intro (c + 1) ⟨⟨by omega, trivial⟩, by first | omega | (dsimp only; omega), le_turn [] [1, 2, 7, 9, 11] [] (by kernel_rfl)⟩
          · skip
            have g28 : ((c : Nat) : Int) = a := bne_f (h20)
            refine T_reg [{}, {}, {}, {}, { g := false }, { g := false }, { g := false }, { d := some (B false) }, {}, { g := false }, { g := false }, { g := false }, { g := false }, { g := false }, { g := false }, { g := false }, { d := some (B false) }] [1, 2, 7, 9, 11, 71] [] (mk 87 [(1, (dt (I a))), (2, (dt (I b))), (7, (dt (.sl 2 ((pays f a).map encPay)))), (9, (dt (.sl 2 ((pays f b).map encPay)))), (11, (dt (I ((c : Nat) : Int)))), (71, (dt (B false)))] []) (True ∧ True ∧ True ∧ True ∧ True ∧ True ∧ True ∧ True ∧ (((((c : Nat) : Int) != a) == true) = false) ∧ (((((c : Nat) : Int) != a) == true) = false) ∧ (((((c : Nat) : Int) != a) == true) = false) ∧ True ∧ ((((c : Nat) : Int) != a) = false) ∧ True ∧ True ∧ ((false == true) = false) ∧ ((false == true) = false) ∧ ((false == true) = false) ∧ ((false == true) = false) ∧ ((false == true) = false) ∧ ((false == true) = false) ∧ ((false == true) = false) ∧ True ∧ (false = false) ∧ True) (by kernel_rfl) ⟨trivial, trivial, trivial, trivial, trivial, trivial, trivial, trivial, (by rw [show (((c : Nat) : Int) != a) = false from h20]; rfl), (by rw [show (((c : Nat) : Int) != a) = false from h20]; rfl), (by rw [show (((c : Nat) : Int) != a) = false from h20]; rfl), trivial, h20, trivial, trivial, (by rw [show false = false from rfl]; rfl), (by rw [show false = false from rfl]; rfl), (by rw [show false = false from rfl]; rfl), (by rw [show false = false from rfl]; rfl), (by rw [show false = false from rfl]; rfl), (by rw [show false = false from rfl]; rfl), (by rw [show false = false from rfl]; rfl), trivial, rfl, trivial⟩ ?_
            refine T_cond false (by kernel_rfl) (fun h => absurd (h.symm.trans rfl) (by decide)) (fun _ => ?_)
            refine T_skip ?_
            refine T_regE [{}, { d := some (I ((c + 1 : Nat) : Int)) }] (mk 87 [(1, (dt (I a))), (2, (dt (I b))), (7, (dt (.sl 2 ((pays f a).map encPay)))), (9, (dt (.sl 2 ((pays f b).map encPay)))), (11, (dt (I ((c + 1 : Nat) : Int)))), (53, (dt (I ((c : Nat) : Int)))), (54, (dt (I ((c + 1 : Nat) : Int)))), (71, (dt (B false)))] []) (True ∧ True ∧ True ∧ (IntKind.i64.wrap (((c : Nat) : Int) + 1) = ((c + 1 : Nat) : Int)) ∧ True ∧ True ∧ True) (by kernel_rfl) ⟨trivial, trivial, trivial, (by rw [i64_wrap (by omega) (by omega)]; omega), trivial, trivial, trivial⟩ ?_
            refine Exists.intro (c + 1) ⟨⟨by omega, trivial⟩, by first | omega | (dsimp only; omega), le_turn [] [1, 2, 7, 9, 11] [] (by kernel_rfl)⟩
        · skip
          have g29 : ¬ (((c : Nat) : Int) < 192) := of_decide_eq_false (h18)
          refine T_exit ?_
          have b1 := amt_pays_bound (f := f) (s := a) (by assumption) a
          have b2 := amt_pays_bound (f := f) (s := a) (by assumption) b
          have b3 := amt_pays_bound (f := f) (s := b) (by assumption) a
          have b4 := amt_pays_bound (f := f) (s := b) (by assumption) b
          have h2 := seller_two (f := f) (a := a) (b := b) (by assumption) (by assumption)
          refine T_reg [{}, {}, { d := some (I (amt a (pays f a))) }, {}, {}, { d := some (I (amt b (pays f a))) }, { d := some (I ((amt a (pays f a)) + (amt b (pays f a)))) }, {}, {}, { d := some (I (amt a (pays f b))) }, {}, {}, { d := some (I (amt b (pays f b))) }, { d := some (I ((amt a (pays f b)) + (amt b (pays f b)))) }] [6] [] (mk 87 [(6, (dt (B (((amt a (pays f a)) + (amt b (pays f a))) == ((amt a (pays f b)) + (amt b (pays f b)))))))] []) (True ∧ True ∧ True ∧ True ∧ True ∧ (Ret Try.prog 21 [(.sl 2 ((pays f a).map encPay)), (I a)] (I (amt a (pays f a)))) ∧ True ∧ True ∧ True ∧ True ∧ True ∧ (Ret Try.prog 21 [(.sl 2 ((pays f a).map encPay)), (I b)] (I (amt b (pays f a)))) ∧ True ∧ (IntKind.i64.wrap ((amt a (pays f a)) + (amt b (pays f a))) = ((amt a (pays f a)) + (amt b (pays f a)))) ∧ True ∧ True ∧ True ∧ True ∧ True ∧ (Ret Try.prog 21 [(.sl 2 ((pays f b).map encPay)), (I a)] (I (amt a (pays f b)))) ∧ True ∧ True ∧ True ∧ True ∧ True ∧ (Ret Try.prog 21 [(.sl 2 ((pays f b).map encPay)), (I b)] (I (amt b (pays f b)))) ∧ True ∧ (IntKind.i64.wrap ((amt a (pays f b)) + (amt b (pays f b))) = ((amt a (pays f b)) + (amt b (pays f b)))) ∧ True ∧ True ∧ True ∧ True ∧ True) (by kernel_rfl) ⟨trivial, trivial, trivial, trivial, trivial, (ret_amount (pays f a) _ (by have := pays_len f a; omega)), trivial, trivial, trivial, trivial, trivial, (ret_amount (pays f a) _ (by have := pays_len f a; omega)), trivial, (i64_wrap (by omega) (by omega)), trivial, trivial, trivial, trivial, trivial, (ret_amount (pays f b) _ (by have := pays_len f b; omega)), trivial, trivial, trivial, trivial, trivial, (ret_amount (pays f b) _ (by have := pays_len f b; omega)), trivial, (i64_wrap (by omega) (by omega)), trivial, trivial, trivial, trivial, trivial⟩ ?_
          refine T_ret ?_
          exact ret_here [(dt (B (((amt a (pays f a)) + (amt b (pays f a))) == ((amt a (pays f b)) + (amt b (pays f b))))))] (by kernel_rfl) (.inl (congrArg B (by first | rfl | exact beq_self_eq_true _ | (simp only [decide_eq_true_eq, beq_iff_eq, Bool.not_eq_true, bne_iff_ne, ne_eq] at *; omega) : (((amt a (pays f a)) + (amt b (pays f a))) == ((amt a (pays f b)) + (amt b (pays f b)))) = true)))

end Go.Proofs.Ythpjlkpkhlkhbaa

/-
  FeesSeller returns true for every input and changes none of its arguments. No condition beside the row's own.
-/
namespace Go.Proofs.Ythpjlkpkhlkhbaa
open Go.DL Go.ChangeShapes Go.WideShapes Go.ChangeAt Go.RowKit
set_option maxRecDepth 100000
theorem seller_lifted (os : Os) (started : os.Started) (H : Type) (enc : TypeId × Value → H) :
    ReturnsInHanded {} Try.checked os 6 .any (Rows.feesSellerSpec.pre6 enc Try.prog Try.f6 Rows.feesSellerRow.domain false) (Rows.feesSellerSpec.post enc Try.prog Try.f6 false true false false) := by
  refine returnsInHanded_of_change_sized (C := Try.checked) Try.own started (by kernel_rfl) Try.func6
    (ChangeSpec.witness6 (enc := enc) (C := Try.checked) false ⟨#[], #[.agg #[.int .i64 0, .int .i64 0, .int .i64 0, .int .i64 0, .slice none 0 0], .int .i64 0, .int .i64 0], []⟩ 8 (by kernel_rfl) (by kernel_rfl) (by kernel_rfl) (by kernel_rfl)) ?_
  intro W base args ds gs before hval0 hW hcnd hwt0 _
  have hval : ∀ (j : Nat) t v, Try.f6.params[j]? = some t → args[j]? = some v → Value.okWide Try.prog W .any base t v := hval0
  have hwt : (DataW.weightsEach Try.prog (Try.f6.params.toList ++ Rows.feesSellerSpec.plain.varTypes Try.prog) (ds ++ gs)).all (· ≤ reachBytes) = true := hwt0
  clear hval0 hwt0
  have hW' := hW
  obtain ⟨p, q, hA0, hV, rfl, hfz, hnd⟩ := hW
  have hA : DataW.TrodAll enc Try.prog W 0 (fun _ => true) true Try.f6.params.toList args.toList ds p := hA0
  rw [Try.params6] at hA hval
  obtain ⟨v0, v1, v2, d0, d1, d2, p0, p1, p2, rfl, rfl, rfl, h0, h1, h2⟩ := trodAll_three hA
  obtain ⟨rfl, rfl⟩ := trodVars_none hV
  have hw : ∀ n ∈ DataW.weightsEach Try.prog [24, 3, 3] [d0, d1, d2], n ≤ reachBytes := by
    intro n hn
    have := List.all_eq_true.1 hwt n hn
    exact of_decide_eq_true this
  simp only [DataW.weightsEach, List.mem_append] at hw
  obtain ⟨a0, r0, g0⟩ := arg_agg decFee h0 (hval 0 24 v0 rfl rfl) (by kernel_rfl)
  have k0 := g0 fun n hn => hw n (.inl hn)
  obtain ⟨a1, r1, g1⟩ := arg_one decInt h1 (hval 1 3 v1 rfl rfl) (no_agg_int undInt)
  have k1 := g1 fun n hn => hw n (.inr (.inl hn))
  obtain ⟨a2, r2, g2⟩ := arg_one decInt h2 (hval 2 3 v2 rfl rfl) (no_agg_int undInt)
  have k2 := g2 fun n hn => hw n (.inr (.inr (.inl hn)))
  exact law_call hW' Try.laidOut (by intro t ht; rw [Try.params6] at ht; simp at ht; rcases ht with rfl | rfl <;> exact ⟨by kernel_rfl, of_decide_eq_true (by kernel_rfl)⟩) 4 (by kernel_rfl) undBool rfl rfl
    [_, _, _] rfl (fun j c hj => match j, hj with
      | 0, hj => by simp at hj; subst hj; exact ⟨v0, rfl, r0⟩
      | 1, hj => by simp at hj; subst hj; exact ⟨v1, rfl, r1⟩
      | 2, hj => by simp at hj; subst hj; exact ⟨v2, rfl, r2⟩
      | j + 3, hj => by simp at hj) (ret_law_seller a0 a1 a2 k0)

theorem seller_holds : Rows.FeesSellerSaid :=
  OpenClaim.holds_of_wide 6 Try.f6 rfl rfl rfl rfl rfl rfl rfl ⟨rfl, rfl, rfl, rfl, rfl⟩ rfl rfl rfl rfl rfl (by kernel_rfl) Try.func6 (by kernel_rfl)
    (of_decide_eq_true (by kernel_rfl)) (by unfold Func.isWrapper; first | (rw [if_pos (by decide +kernel)]; kernel_rfl) | (rw [if_neg (by decide +kernel)]; exact ⟨rfl, rfl⟩))
    (fun os started H enc _ => seller_lifted os started H enc)
#print axioms seller_holds
end Go.Proofs.Ythpjlkpkhlkhbaa
