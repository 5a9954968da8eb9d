/-
  Texts that belong together, one behind the other; what each of them proves, and under which conditions, its own heading says.
-/
import Derived.Test.YthpjlkpkhlkhbaaRows
import Derived.Test.YthpjlkpkhlkhbaaKf
/-
  Walks at the data level, printed by gen.py: what each Go function returns, for data that reads as said. Conditions: those of each theorem.
-/
namespace Go.Proofs.Ythpjlkpkhlkhbaa
open Go.DL
set_option maxRecDepth 100000
set_option linter.unusedVariables false
set_option linter.unusedSimpArgs false
theorem ret_law_rest (f : Fee) (s : Int) (ht : f.t.length ≤ 140737488355328) : Ret Try.prog 5 [(.agg [(I f.a), (I f.p), (I f.m), (I f.s), (.sl 2 (f.t.map encTrain))]), (I s)] (B true) := by
  have hpz : ∀ q, paysE f q = 0 → chk f = 0 ∧ (profit f).2 = 0 ∧ 0 ≤ f.a ∧ f.a ≤ 1125899906842624 := fun q h => ⟨(pays_eq h).2.1, profit_err (pays_eq h).2.1, paysE_amount h⟩
  have hpb := profit_bounds (f := f)
  have hsl := shares_len f
  refine Ret.of_T Try.func5 (by kernel_rfl) rfl ?_
  refine T_turn [] [0, 1] [] (mk 96 [(0, (.agg [(.dat (I f.a)), (.dat (I f.p)), (.dat (I f.m)), (.dat (I f.s)), (.dat (.sl 2 (f.t.map encTrain)))])), (1, (dt (I s)))] []) (by kernel_rfl) ?_
  refine T_reg [] [1, 2] [] (mk 96 [(1, (dt (I s))), (2, (.one (.ref 2 0)))] [(2, (.var [(.dat (I f.a)), (.dat (I f.p)), (.dat (I f.m)), (.dat (I f.s)), (.dat (.sl 2 (f.t.map encTrain)))]))]) (True ∧ True ∧ True ∧ True ∧ True) (by kernel_rfl) ⟨trivial, trivial, trivial, trivial, trivial⟩ ?_
  refine T_seq ?_
  refine T_reg [{ d := some (B true) }] [1, 2, 16] [] (mk 96 [(1, (dt (I s))), (2, (.one (.ref 2 0))), (16, (dt (B false)))] [(2, (.var [(.dat (I f.a)), (.dat (I f.p)), (.dat (I f.m)), (.dat (I f.s)), (.dat (.sl 2 (f.t.map encTrain)))]))]) (True ∧ (Ret Try.prog 10 [] (B true)) ∧ True ∧ True ∧ True) (by kernel_rfl) ⟨trivial, ret_sane, trivial, trivial, trivial⟩ ?_
  refine T_cond false (by kernel_rfl) (fun h => absurd (h.symm.trans rfl) (by decide)) (fun _ => ?_)
  refine T_skip ?_
  refine T_seq ?_
  refine T_reg [{}, { d := some (B (decide (f.t.length ≤ 60))) }] [1, 2, 19] [] (mk 96 [(1, (dt (I s))), (2, (.one (.ref 2 0))), (19, (dt (B (!(decide (f.t.length ≤ 60))))))] [(2, (.var [(.dat (I f.a)), (.dat (I f.p)), (.dat (I f.m)), (.dat (I f.s)), (.dat (.sl 2 (f.t.map encTrain)))]))]) (True ∧ True ∧ True ∧ (Ret Try.prog 11 [(.agg [(I f.a), (I f.p), (I f.m), (I f.s), (.sl 2 (f.t.map encTrain))])] (B (decide (f.t.length ≤ 60)))) ∧ True ∧ True ∧ True) (by kernel_rfl) ⟨trivial, trivial, trivial, (ret_few f (by first | assumption | (simp; done) | decide)), trivial, trivial, trivial⟩ ?_
  refine T_cond (!(decide (f.t.length ≤ 60))) (by kernel_rfl) (fun h1 => ?_) (fun h1 => ?_)
  · skip
    have n2 : (decide (f.t.length ≤ 60)) = false := not_t h1
    have g3 : ¬ (f.t.length ≤ 60) := of_decide_eq_false (n2)
    refine T_reg [] [4] [2] (mk 96 [(4, (dt (B true)))] []) (True ∧ True ∧ True) (by kernel_rfl) ⟨trivial, trivial, trivial⟩ ?_
    refine T_ret ?_
    exact ret_here [(dt (B true))] (by kernel_rfl) (.inl rfl)
  · skip
    have n4 : (decide (f.t.length ≤ 60)) = true := not_f h1
    have g5 : (f.t.length ≤ 60) := of_decide_eq_true (n4)
    refine T_skip ?_
    refine T_reg [{}, {}, { d := some (.tup [(.sl 2 ((pays f s).map encPay)), (I (paysE f s))]) }] [1, 2, 5, 6] [] (mk 96 [(1, (dt (I s))), (2, (.one (.ref 2 0))), (5, (dt (.sl 2 ((pays f s).map encPay)))), (6, (dt (I (paysE f s))))] [(2, (.var [(.dat (I f.a)), (.dat (I f.p)), (.dat (I f.m)), (.dat (I f.s)), (.dat (.sl 2 (f.t.map encTrain)))]))]) (True ∧ True ∧ True ∧ True ∧ True ∧ (Ret Try.prog 19 [(.agg [(I f.a), (I f.p), (I f.m), (I f.s), (.sl 2 (f.t.map encTrain))]), (I s)] (.tup [(.sl 2 ((pays f s).map encPay)), (I (paysE f s))])) ∧ True ∧ True ∧ True ∧ True ∧ True ∧ True ∧ True ∧ True ∧ True ∧ True ∧ True) (by kernel_rfl) ⟨trivial, trivial, trivial, trivial, trivial, (ret_pays f s (by first | assumption | (simp; done) | decide)), trivial, trivial, trivial, trivial, trivial, trivial, trivial, trivial, trivial, trivial, trivial⟩ ?_
    refine T_reg [{}, { d := some (.tup [(.sl 2 ((shares f).map encPay)), (I (chk f))]) }] [1, 2, 5, 6, 7, 8] [] (mk 96 [(1, (dt (I s))), (2, (.one (.ref 2 0))), (5, (dt (.sl 2 ((pays f s).map encPay)))), (6, (dt (I (paysE f s)))), (7, (dt (.sl 2 ((shares f).map encPay)))), (8, (dt (I (chk f))))] [(2, (.var [(.dat (I f.a)), (.dat (I f.p)), (.dat (I f.m)), (.dat (I f.s)), (.dat (.sl 2 (f.t.map encTrain)))]))]) (True ∧ True ∧ True ∧ (Ret Try.prog 12 [(.agg [(I f.a), (I f.p), (I f.m), (I f.s), (.sl 2 (f.t.map encTrain))])] (.tup [(.sl 2 ((shares f).map encPay)), (I (chk f))])) ∧ True ∧ True ∧ True ∧ True ∧ True ∧ True ∧ True ∧ True ∧ True ∧ True ∧ True) (by kernel_rfl) ⟨trivial, trivial, trivial, (ret_shares f (by first | assumption | (simp; done) | decide)), trivial, trivial, trivial, trivial, trivial, trivial, trivial, trivial, trivial, trivial, trivial⟩ ?_
    refine T_reg [{}, { d := some (.tup [(I (profit f).1), (I (profit f).2)]) }] [1, 2, 5, 6, 7, 8, 9, 10] [] (mk 96 [(1, (dt (I s))), (2, (.one (.ref 2 0))), (5, (dt (.sl 2 ((pays f s).map encPay)))), (6, (dt (I (paysE f s)))), (7, (dt (.sl 2 ((shares f).map encPay)))), (8, (dt (I (chk f)))), (9, (dt (I (profit f).1))), (10, (dt (I (profit f).2)))] [(2, (.var [(.dat (I f.a)), (.dat (I f.p)), (.dat (I f.m)), (.dat (I f.s)), (.dat (.sl 2 (f.t.map encTrain)))]))]) (True ∧ True ∧ True ∧ (Ret Try.prog 14 [(.agg [(I f.a), (I f.p), (I f.m), (I f.s), (.sl 2 (f.t.map encTrain))])] (.tup [(I (profit f).1), (I (profit f).2)])) ∧ True ∧ True ∧ True ∧ True ∧ True ∧ True ∧ True ∧ True ∧ True ∧ True ∧ True) (by kernel_rfl) ⟨trivial, trivial, trivial, (ret_profit f (by first | assumption | (simp; done) | decide)), trivial, trivial, trivial, trivial, trivial, trivial, trivial, trivial, trivial, trivial, trivial⟩ ?_
    refine T_seq ?_
    rcases Bool.eq_false_or_eq_true ((paysE f s) != 0) with h6 | h6
    · skip
      have g7 : (paysE f s) ≠ 0 := bne_iff_ne.1 (h6)
      refine T_reg [{}, {}, {}, { g := false }, { g := false }, { d := some (B true) }, {}, { g := false }, { g := false }, { d := some (B true) }] [1, 2, 5, 6, 7, 9, 45] [] (mk 96 [(1, (dt (I s))), (2, (.one (.ref 2 0))), (5, (dt (.sl 2 ((pays f s).map encPay)))), (6, (dt (I (paysE f s)))), (7, (dt (.sl 2 ((shares f).map encPay)))), (9, (dt (I (profit f).1))), (45, (dt (B true)))] [(2, (.var [(.dat (I f.a)), (.dat (I f.p)), (.dat (I f.m)), (.dat (I f.s)), (.dat (.sl 2 (f.t.map encTrain)))]))]) (True ∧ True ∧ True ∧ True ∧ True ∧ True ∧ ((((paysE f s) != 0) == false) = false) ∧ ((((paysE f s) != 0) == false) = false) ∧ True ∧ (((paysE f s) != 0) = true) ∧ True ∧ True ∧ ((true == false) = false) ∧ ((true == false) = false) ∧ True ∧ (true = true) ∧ True) (by kernel_rfl) ⟨trivial, trivial, trivial, trivial, trivial, trivial, (by rw [show ((paysE f s) != 0) = true from h6]; rfl), (by rw [show ((paysE f s) != 0) = true from h6]; rfl), trivial, h6, trivial, trivial, (by rw [show true = true from rfl]; rfl), (by rw [show true = true from rfl]; rfl), trivial, rfl, trivial⟩ ?_
      refine T_cond true (by kernel_rfl) (fun _ => ?_) (fun h => absurd (h.symm.trans rfl) (by decide))
      have hpzs := hpz s
      refine T_reg [] [4] [2] (mk 96 [(4, (dt (B ((paysE f s) != 0))))] []) (True ∧ True ∧ True ∧ True ∧ True ∧ True ∧ True) (by kernel_rfl) ⟨trivial, trivial, trivial, trivial, trivial, trivial, trivial⟩ ?_
      refine T_ret ?_
      exact ret_here [(dt (B ((paysE f s) != 0)))] (by kernel_rfl) (.inl (congrArg B (by first | rfl | exact beq_self_eq_true _ | (simp only [decide_eq_true_eq, beq_iff_eq, Bool.not_eq_true, bne_iff_ne, ne_eq] at *; omega) : ((paysE f s) != 0) = true)))
    · skip
      have g8 : (paysE f s) = 0 := bne_f (h6)
      rcases Bool.eq_false_or_eq_true ((chk f) != 0) with h9 | h9
      · skip
        have g10 : (chk f) ≠ 0 := bne_iff_ne.1 (h9)
        refine T_reg [{}, {}, {}, {}, {}, { d := some (B false) }, {}, { g := false }, { g := false }, { d := some (B true) }] [1, 2, 5, 6, 7, 9, 45] [] (mk 96 [(1, (dt (I s))), (2, (.one (.ref 2 0))), (5, (dt (.sl 2 ((pays f s).map encPay)))), (6, (dt (I (paysE f s)))), (7, (dt (.sl 2 ((shares f).map encPay)))), (9, (dt (I (profit f).1))), (45, (dt (B true)))] [(2, (.var [(.dat (I f.a)), (.dat (I f.p)), (.dat (I f.m)), (.dat (I f.s)), (.dat (.sl 2 (f.t.map encTrain)))]))]) (True ∧ True ∧ True ∧ True ∧ True ∧ True ∧ ((((paysE f s) != 0) == false) = true) ∧ True ∧ ((((paysE f s) != 0) == false) = true) ∧ True ∧ True ∧ (((paysE f s) != 0) = false) ∧ True ∧ True ∧ ((((chk f) != 0) == false) = false) ∧ ((((chk f) != 0) == false) = false) ∧ True ∧ (((chk f) != 0) = true) ∧ True) (by kernel_rfl) ⟨trivial, trivial, trivial, trivial, trivial, trivial, (by rw [show ((paysE f s) != 0) = false from h6]; rfl), trivial, (by rw [show ((paysE f s) != 0) = false from h6]; rfl), trivial, trivial, h6, trivial, trivial, (by rw [show ((chk f) != 0) = true from h9]; rfl), (by rw [show ((chk f) != 0) = true from h9]; rfl), trivial, h9, trivial⟩ ?_
        refine T_cond true (by kernel_rfl) (fun _ => ?_) (fun h => absurd (h.symm.trans rfl) (by decide))
        have hpzs := hpz s
        refine T_reg [] [4] [2] (mk 96 [(4, (dt (B ((paysE f s) != 0))))] []) (True ∧ True ∧ True ∧ True ∧ True ∧ True ∧ True) (by kernel_rfl) ⟨trivial, trivial, trivial, trivial, trivial, trivial, trivial⟩ ?_
        refine T_ret ?_
        exact ret_here [(dt (B ((paysE f s) != 0)))] (by kernel_rfl) (.inl (congrArg B (by first | rfl | exact beq_self_eq_true _ | (simp only [decide_eq_true_eq, beq_iff_eq, Bool.not_eq_true, bne_iff_ne, ne_eq] at *; omega) : ((paysE f s) != 0) = true)))
      · skip
        have g11 : (chk f) = 0 := bne_f (h9)
        refine T_reg [{}, {}, {}, {}, {}, { d := some (B false) }, {}, {}, {}, { d := some (B false) }] [1, 2, 5, 6, 7, 9, 45] [] (mk 96 [(1, (dt (I s))), (2, (.one (.ref 2 0))), (5, (dt (.sl 2 ((pays f s).map encPay)))), (6, (dt (I (paysE f s)))), (7, (dt (.sl 2 ((shares f).map encPay)))), (9, (dt (I (profit f).1))), (45, (dt (B ((profit f).2 != 0))))] [(2, (.var [(.dat (I f.a)), (.dat (I f.p)), (.dat (I f.m)), (.dat (I f.s)), (.dat (.sl 2 (f.t.map encTrain)))]))]) (True ∧ True ∧ True ∧ True ∧ True ∧ True ∧ ((((paysE f s) != 0) == false) = true) ∧ True ∧ ((((paysE f s) != 0) == false) = true) ∧ True ∧ True ∧ (((paysE f s) != 0) = false) ∧ True ∧ True ∧ ((((chk f) != 0) == false) = true) ∧ True ∧ ((((chk f) != 0) == false) = true) ∧ True ∧ True ∧ (((chk f) != 0) = false) ∧ True) (by kernel_rfl) ⟨trivial, trivial, trivial, trivial, trivial, trivial, (by rw [show ((paysE f s) != 0) = false from h6]; rfl), trivial, (by rw [show ((paysE f s) != 0) = false from h6]; rfl), trivial, trivial, h6, trivial, trivial, (by rw [show ((chk f) != 0) = false from h9]; rfl), trivial, (by rw [show ((chk f) != 0) = false from h9]; rfl), trivial, trivial, h9, trivial⟩ ?_
        refine T_cond ((profit f).2 != 0) (by kernel_rfl) (fun h12 => ?_) (fun h12 => ?_)
        · skip
          have g13 : (profit f).2 ≠ 0 := bne_iff_ne.1 (h12)
          have hpzs := hpz s
          refine T_reg [] [4] [2] (mk 96 [(4, (dt (B ((paysE f s) != 0))))] []) (True ∧ True ∧ True ∧ True ∧ True ∧ True ∧ True) (by kernel_rfl) ⟨trivial, trivial, trivial, trivial, trivial, trivial, trivial⟩ ?_
          refine T_ret ?_
          exact ret_here [(dt (B ((paysE f s) != 0)))] (by kernel_rfl) (.inl (congrArg B (by first | rfl | exact beq_self_eq_true _ | (simp only [decide_eq_true_eq, beq_iff_eq, Bool.not_eq_true, bne_iff_ne, ne_eq] at *; omega) : ((paysE f s) != 0) = true)))
        · skip
          have g14 : (profit f).2 = 0 := bne_f (h12)
          refine T_skip ?_
          have hpzs := hpz s (by assumption)
          refine T_reg [{}, {}, {}, { d := some (I (f.a - (profit f).1)) }] [1, 2, 5, 7, 9, 11] [] (mk 96 [(1, (dt (I s))), (2, (.one (.ref 2 0))), (5, (dt (.sl 2 ((pays f s).map encPay)))), (7, (dt (.sl 2 ((shares f).map encPay)))), (9, (dt (I (profit f).1))), (11, (dt (I (f.a - (profit f).1))))] [(2, (.var [(.dat (I f.a)), (.dat (I f.p)), (.dat (I f.m)), (.dat (I f.s)), (.dat (.sl 2 (f.t.map encTrain)))]))]) (True ∧ True ∧ True ∧ True ∧ True ∧ True ∧ True ∧ (IntKind.i64.wrap (f.a - (profit f).1) = (f.a - (profit f).1)) ∧ True ∧ True ∧ True) (by kernel_rfl) ⟨trivial, trivial, trivial, trivial, trivial, trivial, trivial, (i64_wrap (by omega) (by omega)), trivial, trivial, trivial⟩ ?_
          refine T_seq ?_
          refine T_reg [] [1, 2, 5, 7, 9, 11, 12] [] (mk 96 [(1, (dt (I s))), (2, (.one (.ref 2 0))), (5, (dt (.sl 2 ((pays f s).map encPay)))), (7, (dt (.sl 2 ((shares f).map encPay)))), (9, (dt (I (profit f).1))), (11, (dt (I (f.a - (profit f).1)))), (12, (dt (I 0)))] [(2, (.var [(.dat (I f.a)), (.dat (I f.p)), (.dat (I f.m)), (.dat (I f.s)), (.dat (.sl 2 (f.t.map encTrain)))]))]) (True ∧ True ∧ True) (by kernel_rfl) ⟨trivial, trivial, trivial⟩ ?_
          refine T_block ?_
          refine T_turn [] [1, 2, 5, 7, 9, 11, 12] [] ((fun ((k, r) : Nat × Int) => (mk 96 [(1, (dt (I s))), (2, (.one (.ref 2 0))), (5, (dt (.sl 2 ((pays f s).map encPay)))), (7, (dt (.sl 2 ((shares f).map encPay)))), (9, (dt (I (profit f).1))), (11, (dt (I r))), (12, (dt (I ((k : Nat) : Int))))] [(2, (.var [(.dat (I f.a)), (.dat (I f.p)), (.dat (I f.m)), (.dat (I f.s)), (.dat (.sl 2 (f.t.map encTrain)))]))])) (0, (f.a - (profit f).1))) (by kernel_rfl) (T_loop (α := Nat × Int) (fun ((k, r) : Nat × Int) => (mk 96 [(1, (dt (I s))), (2, (.one (.ref 2 0))), (5, (dt (.sl 2 ((pays f s).map encPay)))), (7, (dt (.sl 2 ((shares f).map encPay)))), (9, (dt (I (profit f).1))), (11, (dt (I r))), (12, (dt (I ((k : Nat) : Int))))] [(2, (.var [(.dat (I f.a)), (.dat (I f.p)), (.dat (I f.m)), (.dat (I f.s)), (.dat (.sl 2 (f.t.map encTrain)))]))])) (fun ((k, r) : Nat × Int) => (k ≤ (shares f).length) ∧ (r = f.a - (profit f).1 - sumA ((shares f).take k)) ∧ True) (fun ((k, r) : Nat × Int) => (shares f).length - k) (0, (f.a - (profit f).1)) ⟨Nat.zero_le _, by simp [sumA], trivial⟩ ?_)
          rintro ⟨k, r⟩ ⟨ik, ir, _⟩
          have hsm := small_sum (by decide) (small_pre (small1 f)) k
          have hpzs := hpz s (by assumption)
          refine T_seq ?_
          refine T_reg [{}, {}, { d := some (I (((shares f).length : Nat) : Int)) }] [1, 2, 5, 7, 9, 11, 12, 55] [] (mk 96 [(1, (dt (I s))), (2, (.one (.ref 2 0))), (5, (dt (.sl 2 ((pays f s).map encPay)))), (7, (dt (.sl 2 ((shares f).map encPay)))), (9, (dt (I (profit f).1))), (11, (dt (I r))), (12, (dt (I ((k : Nat) : Int)))), (55, (dt (B (decide (((k : Nat) : Int) < (((shares f).length : Nat) : Int))))))] [(2, (.var [(.dat (I f.a)), (.dat (I f.p)), (.dat (I f.m)), (.dat (I f.s)), (.dat (.sl 2 (f.t.map encTrain)))]))]) (True ∧ True ∧ True ∧ True ∧ True ∧ (True ∧ D.int .i64 (((shares f).map encPay).length : Int) = (I (((shares f).length : Nat) : Int))) ∧ True ∧ True ∧ True) (by kernel_rfl) ⟨trivial, trivial, trivial, trivial, trivial, ⟨trivial, by rw [List.length_map]⟩, trivial, trivial, trivial⟩ ?_
          refine T_cond (decide (((k : Nat) : Int) < (((shares f).length : Nat) : Int))) (by kernel_rfl) (fun h15 => ?_) (fun h15 => ?_)
          · skip
            have g16 : ((k : Nat) : Int) < (((shares f).length : Nat) : Int) := of_decide_eq_true (h15)
            refine T_skip ?_
            refine T_seq ?_
            refine T_block ?_
            have lt17 : k < ((shares f)).length := by first | omega | (simp only [List.length_set, List.length_map, List.length_append, List.length_cons, List.length_nil] at *; omega)
            obtain ⟨x18, hx19⟩ : ∃ x, ((shares f))[k]? = some x := ⟨_, List.getElem?_eq_getElem lt17⟩
            have hxm := shares_mem (List.mem_of_getElem? hx19)
            refine T_regE [{}, {}, {}, { d := some (.agg [(I x18.c), (I x18.a)]) }, {}, {}, { d := some (I (r - x18.a)) }] (mk 96 [(1, (dt (I s))), (2, (.one (.ref 2 0))), (5, (dt (.sl 2 ((pays f s).map encPay)))), (7, (dt (.sl 2 ((shares f).map encPay)))), (9, (dt (I (profit f).1))), (11, (dt (I (r - x18.a)))), (12, (dt (I ((k : Nat) : Int)))), (55, (dt (B (decide (((k : Nat) : Int) < (((shares f).length : Nat) : Int)))))), (58, (dt (I r))), (59, (dt (.sl 2 ((shares f).map encPay)))), (60, (dt (I ((k : Nat) : Int)))), (61, (dt (.ptr [(I x18.c), (I x18.a)]))), (62, (dt (.ptr [(I x18.a)]))), (63, (dt (I x18.a))), (64, (dt (I (r - x18.a))))] [(2, (.var [(.dat (I f.a)), (.dat (I f.p)), (.dat (I f.m)), (.dat (I f.s)), (.dat (.sl 2 (f.t.map encTrain)))]))]) (True ∧ True ∧ True ∧ True ∧ True ∧ True ∧ True ∧ (0 ≤ ((k : Nat) : Int) ∧ ((shares f).map encPay)[k]? = some (.agg [(I x18.c), (I x18.a)])) ∧ True ∧ True ∧ True ∧ True ∧ True ∧ (IntKind.i64.wrap (r - x18.a) = (r - x18.a)) ∧ True ∧ True ∧ True) (by kernel_rfl) ⟨trivial, trivial, trivial, trivial, trivial, trivial, trivial, ⟨by omega, by rw [List.getElem?_map, hx19]; rfl⟩, trivial, trivial, trivial, trivial, trivial, (i64_wrap (by omega) (by omega)), trivial, trivial, trivial⟩ ?_
            refine T_regE [{}, { d := some (I ((k + 1 : Nat) : Int)) }] (mk 96 [(1, (dt (I s))), (2, (.one (.ref 2 0))), (5, (dt (.sl 2 ((pays f s).map encPay)))), (7, (dt (.sl 2 ((shares f).map encPay)))), (9, (dt (I (profit f).1))), (11, (dt (I (r - x18.a)))), (12, (dt (I ((k + 1 : Nat) : Int)))), (55, (dt (B (decide (((k : Nat) : Int) < (((shares f).length : Nat) : Int)))))), (56, (dt (I ((k : Nat) : Int)))), (57, (dt (I ((k + 1 : Nat) : Int)))), (58, (dt (I r))), (59, (dt (.sl 2 ((shares f).map encPay)))), (60, (dt (I ((k : Nat) : Int)))), (61, (dt (.ptr [(I x18.c), (I x18.a)]))), (62, (dt (.ptr [(I x18.a)]))), (63, (dt (I x18.a))), (64, (dt (I (r - x18.a))))] [(2, (.var [(.dat (I f.a)), (.dat (I f.p)), (.dat (I f.m)), (.dat (I f.s)), (.dat (.sl 2 (f.t.map encTrain)))]))]) (True ∧ True ∧ True ∧ (IntKind.i64.wrap (((k : Nat) : Int) + 1) = ((k + 1 : Nat) : Int)) ∧ True ∧ True ∧ True) (by kernel_rfl) ⟨trivial, trivial, trivial, (by rw [i64_wrap (by omega) (by omega)]; omega), trivial, trivial, trivial⟩ ?_
            refine Exists.intro (k + 1, (r - x18.a)) ⟨⟨by omega, by rw [ir, sumA_snoc hx19]; omega, trivial⟩, by first | omega | (dsimp only; omega), le_turn [] [1, 2, 5, 7, 9, 11, 12] [] (by kernel_rfl)⟩
          · skip
            have g20 : ¬ (((k : Nat) : Int) < (((shares f).length : Nat) : Int)) := of_decide_eq_false (h15)
            refine T_exit ?_
            refine T_seq ?_
            refine T_reg [] [1, 2, 5, 7, 9, 11, 13] [] (mk 96 [(1, (dt (I s))), (2, (.one (.ref 2 0))), (5, (dt (.sl 2 ((pays f s).map encPay)))), (7, (dt (.sl 2 ((shares f).map encPay)))), (9, (dt (I (profit f).1))), (11, (dt (I r))), (13, (dt (I 0)))] [(2, (.var [(.dat (I f.a)), (.dat (I f.p)), (.dat (I f.m)), (.dat (I f.s)), (.dat (.sl 2 (f.t.map encTrain)))]))]) (True ∧ True ∧ True) (by kernel_rfl) ⟨trivial, trivial, trivial⟩ ?_
            refine T_block ?_
            refine T_turn [] [1, 2, 5, 7, 9, 11, 13] [] ((fun (c : Nat) => (mk 96 [(1, (dt (I s))), (2, (.one (.ref 2 0))), (5, (dt (.sl 2 ((pays f s).map encPay)))), (7, (dt (.sl 2 ((shares f).map encPay)))), (9, (dt (I (profit f).1))), (11, (dt (I r))), (13, (dt (I ((c : Nat) : Int))))] [(2, (.var [(.dat (I f.a)), (.dat (I f.p)), (.dat (I f.m)), (.dat (I f.s)), (.dat (.sl 2 (f.t.map encTrain)))]))])) (0)) (by kernel_rfl) (T_loop (α := Nat) (fun (c : Nat) => (mk 96 [(1, (dt (I s))), (2, (.one (.ref 2 0))), (5, (dt (.sl 2 ((pays f s).map encPay)))), (7, (dt (.sl 2 ((shares f).map encPay)))), (9, (dt (I (profit f).1))), (11, (dt (I r))), (13, (dt (I ((c : Nat) : Int))))] [(2, (.var [(.dat (I f.a)), (.dat (I f.p)), (.dat (I f.m)), (.dat (I f.s)), (.dat (.sl 2 (f.t.map encTrain)))]))])) (fun (c : Nat) => (c ≤ 192) ∧ True) (fun (c : Nat) => 192 - c) (0) ⟨Nat.zero_le _, trivial⟩ ?_)
            rintro c ⟨ic, _⟩
            have hab := amt_shares_bound f (c : Nat)
            have hap := amt_pays_bound (f := f) (s := s) (by assumption) (c : Nat)
            have hro := rest_ok (f := f) (s := s) (by assumption)
            have hrr := rest_is ir (by omega)
            refine T_seq ?_
            refine T_reg [] [1, 2, 5, 7, 9, 11, 13, 66] [] (mk 96 [(1, (dt (I s))), (2, (.one (.ref 2 0))), (5, (dt (.sl 2 ((pays f s).map encPay)))), (7, (dt (.sl 2 ((shares f).map encPay)))), (9, (dt (I (profit f).1))), (11, (dt (I r))), (13, (dt (I ((c : Nat) : Int)))), (66, (dt (B (decide (((c : Nat) : Int) < 192)))))] [(2, (.var [(.dat (I f.a)), (.dat (I f.p)), (.dat (I f.m)), (.dat (I f.s)), (.dat (.sl 2 (f.t.map encTrain)))]))]) (True ∧ True ∧ True ∧ True ∧ True) (by kernel_rfl) ⟨trivial, trivial, trivial, trivial, trivial⟩ ?_
            refine T_cond (decide (((c : Nat) : Int) < 192)) (by kernel_rfl) (fun h21 => ?_) (fun h21 => ?_)
            · skip
              have g22 : ((c : Nat) : Int) < 192 := of_decide_eq_true (h21)
              refine T_skip ?_
              refine T_seq ?_
              refine T_block ?_
              refine T_reg [{}, {}, { d := some (I (amt ((c : Nat) : Int) (shares f))) }] [1, 2, 5, 7, 9, 11, 13, 14] [] (mk 96 [(1, (dt (I s))), (2, (.one (.ref 2 0))), (5, (dt (.sl 2 ((pays f s).map encPay)))), (7, (dt (.sl 2 ((shares f).map encPay)))), (9, (dt (I (profit f).1))), (11, (dt (I r))), (13, (dt (I ((c : Nat) : Int)))), (14, (dt (I (amt ((c : Nat) : Int) (shares f)))))] [(2, (.var [(.dat (I f.a)), (.dat (I f.p)), (.dat (I f.m)), (.dat (I f.s)), (.dat (.sl 2 (f.t.map encTrain)))]))]) (True ∧ True ∧ True ∧ True ∧ True ∧ (Ret Try.prog 21 [(.sl 2 ((shares f).map encPay)), (I ((c : Nat) : Int))] (I (amt ((c : Nat) : Int) (shares f)))) ∧ True ∧ True ∧ True) (by kernel_rfl) ⟨trivial, trivial, trivial, trivial, trivial, (ret_amount (shares f) _ (by have := shares_len f; omega)), trivial, trivial, trivial⟩ ?_
              refine T_seq ?_
              refine T_reg [] [1, 2, 5, 7, 9, 11, 13, 14, 75] [] (mk 96 [(1, (dt (I s))), (2, (.one (.ref 2 0))), (5, (dt (.sl 2 ((pays f s).map encPay)))), (7, (dt (.sl 2 ((shares f).map encPay)))), (9, (dt (I (profit f).1))), (11, (dt (I r))), (13, (dt (I ((c : Nat) : Int)))), (14, (dt (I (amt ((c : Nat) : Int) (shares f))))), (75, (dt (B (((c : Nat) : Int) == f.m))))] [(2, (.var [(.dat (I f.a)), (.dat (I f.p)), (.dat (I f.m)), (.dat (I f.s)), (.dat (.sl 2 (f.t.map encTrain)))]))]) (True ∧ True ∧ True ∧ True ∧ True ∧ True ∧ True ∧ True ∧ True) (by kernel_rfl) ⟨trivial, trivial, trivial, trivial, trivial, trivial, trivial, trivial, trivial⟩ ?_
              refine T_cond (((c : Nat) : Int) == f.m) (by kernel_rfl) (fun h23 => ?_) (fun h23 => ?_)
              · skip
                have g24 : ((c : Nat) : Int) = f.m := eq_of_beq (h23)
                refine T_regE [{}, {}, { d := some (I ((amt ((c : Nat) : Int) (shares f)) + (profit f).1)) }] (mk 96 [(1, (dt (I s))), (2, (.one (.ref 2 0))), (5, (dt (.sl 2 ((pays f s).map encPay)))), (7, (dt (.sl 2 ((shares f).map encPay)))), (9, (dt (I (profit f).1))), (11, (dt (I r))), (13, (dt (I ((c : Nat) : Int)))), (14, (dt (I ((amt ((c : Nat) : Int) (shares f)) + (profit f).1)))), (75, (dt (B (((c : Nat) : Int) == f.m)))), (76, (dt (I (amt ((c : Nat) : Int) (shares f))))), (77, (dt (I (profit f).1))), (78, (dt (I ((amt ((c : Nat) : Int) (shares f)) + (profit f).1))))] [(2, (.var [(.dat (I f.a)), (.dat (I f.p)), (.dat (I f.m)), (.dat (I f.s)), (.dat (.sl 2 (f.t.map encTrain)))]))]) (True ∧ True ∧ True ∧ True ∧ True ∧ (IntKind.i64.wrap ((amt ((c : Nat) : Int) (shares f)) + (profit f).1) = ((amt ((c : Nat) : Int) (shares f)) + (profit f).1)) ∧ True ∧ True ∧ True) (by kernel_rfl) ⟨trivial, trivial, trivial, trivial, trivial, (i64_wrap (by omega) (by omega)), trivial, trivial, trivial⟩ ?_
                refine T_seq ?_
                refine T_reg [] [1, 2, 5, 7, 9, 11, 13, 14, 81] [] (mk 96 [(1, (dt (I s))), (2, (.one (.ref 2 0))), (5, (dt (.sl 2 ((pays f s).map encPay)))), (7, (dt (.sl 2 ((shares f).map encPay)))), (9, (dt (I (profit f).1))), (11, (dt (I r))), (13, (dt (I ((c : Nat) : Int)))), (14, (dt (I ((amt ((c : Nat) : Int) (shares f)) + (profit f).1)))), (81, (dt (B (((c : Nat) : Int) == s))))] [(2, (.var [(.dat (I f.a)), (.dat (I f.p)), (.dat (I f.m)), (.dat (I f.s)), (.dat (.sl 2 (f.t.map encTrain)))]))]) (True ∧ True ∧ True ∧ True ∧ True ∧ True ∧ True) (by kernel_rfl) ⟨trivial, trivial, trivial, trivial, trivial, trivial, trivial⟩ ?_
                refine T_cond (((c : Nat) : Int) == s) (by kernel_rfl) (fun h25 => ?_) (fun h25 => ?_)
                · skip
                  have g26 : ((c : Nat) : Int) = s := eq_of_beq (h25)
                  refine T_regE [{}, {}, { d := some (I (((amt ((c : Nat) : Int) (shares f)) + (profit f).1) + r)) }] (mk 96 [(1, (dt (I s))), (2, (.one (.ref 2 0))), (5, (dt (.sl 2 ((pays f s).map encPay)))), (7, (dt (.sl 2 ((shares f).map encPay)))), (9, (dt (I (profit f).1))), (11, (dt (I r))), (13, (dt (I ((c : Nat) : Int)))), (14, (dt (I (((amt ((c : Nat) : Int) (shares f)) + (profit f).1) + r)))), (81, (dt (B (((c : Nat) : Int) == s)))), (82, (dt (I ((amt ((c : Nat) : Int) (shares f)) + (profit f).1)))), (83, (dt (I r))), (84, (dt (I (((amt ((c : Nat) : Int) (shares f)) + (profit f).1) + r))))] [(2, (.var [(.dat (I f.a)), (.dat (I f.p)), (.dat (I f.m)), (.dat (I f.s)), (.dat (.sl 2 (f.t.map encTrain)))]))]) (True ∧ True ∧ True ∧ True ∧ True ∧ (IntKind.i64.wrap (((amt ((c : Nat) : Int) (shares f)) + (profit f).1) + r) = (((amt ((c : Nat) : Int) (shares f)) + (profit f).1) + r)) ∧ True ∧ True ∧ True) (by kernel_rfl) ⟨trivial, trivial, trivial, trivial, trivial, (i64_wrap (by omega) (by omega)), trivial, trivial, trivial⟩ ?_
                  refine T_reg [{}, {}, { d := some (I (amt ((c : Nat) : Int) (pays f s))) }] [1, 2, 5, 7, 9, 11, 13, 89] [] (mk 96 [(1, (dt (I s))), (2, (.one (.ref 2 0))), (5, (dt (.sl 2 ((pays f s).map encPay)))), (7, (dt (.sl 2 ((shares f).map encPay)))), (9, (dt (I (profit f).1))), (11, (dt (I r))), (13, (dt (I ((c : Nat) : Int)))), (89, (dt (B ((amt ((c : Nat) : Int) (pays f s)) != (((amt ((c : Nat) : Int) (shares f)) + (profit f).1) + r)))))] [(2, (.var [(.dat (I f.a)), (.dat (I f.p)), (.dat (I f.m)), (.dat (I f.s)), (.dat (.sl 2 (f.t.map encTrain)))]))]) (True ∧ True ∧ True ∧ True ∧ True ∧ (Ret Try.prog 21 [(.sl 2 ((pays f s).map encPay)), (I ((c : Nat) : Int))] (I (amt ((c : Nat) : Int) (pays f s)))) ∧ True ∧ True ∧ True ∧ True ∧ True) (by kernel_rfl) ⟨trivial, trivial, trivial, trivial, trivial, (ret_amount (pays f s) _ (by have := pays_len f s; omega)), trivial, trivial, trivial, trivial, trivial⟩ ?_
                  refine T_cond ((amt ((c : Nat) : Int) (pays f s)) != (((amt ((c : Nat) : Int) (shares f)) + (profit f).1) + r)) (by kernel_rfl) (fun h27 => ?_) (fun h27 => ?_)
                  · skip
                    have g28 : (amt ((c : Nat) : Int) (pays f s)) ≠ (((amt ((c : Nat) : Int) (shares f)) + (profit f).1) + r) := bne_iff_ne.1 (h27)
                    exact (by exfalso; have hpa := pays_amt (f := f) (s := s) (c := ((c : Nat) : Int)) (by assumption) (by omega); have hr := rest_is ir (by omega); have hh : (amt ((c : Nat) : Int) (pays f s)) ≠ (((amt ((c : Nat) : Int) (shares f)) + (profit f).1) + r) := (by assumption); (split at hpa <;> split at hpa) <;> omega)
                  · skip
                    have g29 : (amt ((c : Nat) : Int) (pays f s)) = (((amt ((c : Nat) : Int) (shares f)) + (profit f).1) + r) := bne_f (h27)
                    refine T_skip ?_
                    refine T_regE [{}, { d := some (I ((c + 1 : Nat) : Int)) }] (mk 96 [(1, (dt (I s))), (2, (.one (.ref 2 0))), (5, (dt (.sl 2 ((pays f s).map encPay)))), (7, (dt (.sl 2 ((shares f).map encPay)))), (9, (dt (I (profit f).1))), (11, (dt (I r))), (13, (dt (I ((c + 1 : Nat) : Int)))), (67, (dt (I ((c : Nat) : Int)))), (68, (dt (I ((c + 1 : Nat) : Int)))), (89, (dt (B ((amt ((c : Nat) : Int) (pays f s)) != (((amt ((c : Nat) : Int) (shares f)) + (profit f).1) + r)))))] [(2, (.var [(.dat (I f.a)), (.dat (I f.p)), (.dat (I f.m)), (.dat (I f.s)), (.dat (.sl 2 (f.t.map encTrain)))]))]) (True ∧ True ∧ True ∧ (IntKind.i64.wrap (((c : Nat) : Int) + 1) = ((c + 1 : Nat) : Int)) ∧ True ∧ True ∧ True) (by kernel_rfl) ⟨trivial, trivial, trivial, (by rw [i64_wrap (by omega) (by omega)]; omega), trivial, trivial, trivial⟩ ?_
                    refine Exists.intro (c + 1) ⟨⟨by omega, trivial⟩, by first | omega | (dsimp only; omega), le_turn [] [1, 2, 5, 7, 9, 11, 13] [] (by kernel_rfl)⟩
                · skip
                  have g30 : ((c : Nat) : Int) ≠ s := ne_of_beq_false (h25)
                  refine T_skip ?_
                  refine T_reg [{}, {}, { d := some (I (amt ((c : Nat) : Int) (pays f s))) }] [1, 2, 5, 7, 9, 11, 13, 89] [] (mk 96 [(1, (dt (I s))), (2, (.one (.ref 2 0))), (5, (dt (.sl 2 ((pays f s).map encPay)))), (7, (dt (.sl 2 ((shares f).map encPay)))), (9, (dt (I (profit f).1))), (11, (dt (I r))), (13, (dt (I ((c : Nat) : Int)))), (89, (dt (B ((amt ((c : Nat) : Int) (pays f s)) != ((amt ((c : Nat) : Int) (shares f)) + (profit f).1)))))] [(2, (.var [(.dat (I f.a)), (.dat (I f.p)), (.dat (I f.m)), (.dat (I f.s)), (.dat (.sl 2 (f.t.map encTrain)))]))]) (True ∧ True ∧ True ∧ True ∧ True ∧ (Ret Try.prog 21 [(.sl 2 ((pays f s).map encPay)), (I ((c : Nat) : Int))] (I (amt ((c : Nat) : Int) (pays f s)))) ∧ True ∧ True ∧ True ∧ True ∧ True) (by kernel_rfl) ⟨trivial, trivial, trivial, trivial, trivial, (ret_amount (pays f s) _ (by have := pays_len f s; omega)), trivial, trivial, trivial, trivial, trivial⟩ ?_
                  refine T_cond ((amt ((c : Nat) : Int) (pays f s)) != ((amt ((c : Nat) : Int) (shares f)) + (profit f).1)) (by kernel_rfl) (fun h31 => ?_) (fun h31 => ?_)
                  · skip
                    have g32 : (amt ((c : Nat) : Int) (pays f s)) ≠ ((amt ((c : Nat) : Int) (shares f)) + (profit f).1) := bne_iff_ne.1 (h31)
                    exact (by exfalso; have hpa := pays_amt (f := f) (s := s) (c := ((c : Nat) : Int)) (by assumption) (by omega); have hr := rest_is ir (by omega); have hh : (amt ((c : Nat) : Int) (pays f s)) ≠ ((amt ((c : Nat) : Int) (shares f)) + (profit f).1) := (by assumption); (split at hpa <;> split at hpa) <;> omega)
                  · skip
                    have g33 : (amt ((c : Nat) : Int) (pays f s)) = ((amt ((c : Nat) : Int) (shares f)) + (profit f).1) := bne_f (h31)
                    refine T_skip ?_
                    refine T_regE [{}, { d := some (I ((c + 1 : Nat) : Int)) }] (mk 96 [(1, (dt (I s))), (2, (.one (.ref 2 0))), (5, (dt (.sl 2 ((pays f s).map encPay)))), (7, (dt (.sl 2 ((shares f).map encPay)))), (9, (dt (I (profit f).1))), (11, (dt (I r))), (13, (dt (I ((c + 1 : Nat) : Int)))), (67, (dt (I ((c : Nat) : Int)))), (68, (dt (I ((c + 1 : Nat) : Int)))), (89, (dt (B ((amt ((c : Nat) : Int) (pays f s)) != ((amt ((c : Nat) : Int) (shares f)) + (profit f).1)))))] [(2, (.var [(.dat (I f.a)), (.dat (I f.p)), (.dat (I f.m)), (.dat (I f.s)), (.dat (.sl 2 (f.t.map encTrain)))]))]) (True ∧ True ∧ True ∧ (IntKind.i64.wrap (((c : Nat) : Int) + 1) = ((c + 1 : Nat) : Int)) ∧ True ∧ True ∧ True) (by kernel_rfl) ⟨trivial, trivial, trivial, (by rw [i64_wrap (by omega) (by omega)]; omega), trivial, trivial, trivial⟩ ?_
                    refine Exists.intro (c + 1) ⟨⟨by omega, trivial⟩, by first | omega | (dsimp only; omega), le_turn [] [1, 2, 5, 7, 9, 11, 13] [] (by kernel_rfl)⟩
              · skip
                have g34 : ((c : Nat) : Int) ≠ f.m := ne_of_beq_false (h23)
                refine T_skip ?_
                refine T_seq ?_
                refine T_reg [] [1, 2, 5, 7, 9, 11, 13, 14, 81] [] (mk 96 [(1, (dt (I s))), (2, (.one (.ref 2 0))), (5, (dt (.sl 2 ((pays f s).map encPay)))), (7, (dt (.sl 2 ((shares f).map encPay)))), (9, (dt (I (profit f).1))), (11, (dt (I r))), (13, (dt (I ((c : Nat) : Int)))), (14, (dt (I (amt ((c : Nat) : Int) (shares f))))), (81, (dt (B (((c : Nat) : Int) == s))))] [(2, (.var [(.dat (I f.a)), (.dat (I f.p)), (.dat (I f.m)), (.dat (I f.s)), (.dat (.sl 2 (f.t.map encTrain)))]))]) (True ∧ True ∧ True ∧ True ∧ True ∧ True ∧ True) (by kernel_rfl) ⟨trivial, trivial, trivial, trivial, trivial, trivial, trivial⟩ ?_
                refine T_cond (((c : Nat) : Int) == s) (by kernel_rfl) (fun h35 => ?_) (fun h35 => ?_)
                · skip
                  have g36 : ((c : Nat) : Int) = s := eq_of_beq (h35)
                  refine T_regE [{}, {}, { d := some (I ((amt ((c : Nat) : Int) (shares f)) + r)) }] (mk 96 [(1, (dt (I s))), (2, (.one (.ref 2 0))), (5, (dt (.sl 2 ((pays f s).map encPay)))), (7, (dt (.sl 2 ((shares f).map encPay)))), (9, (dt (I (profit f).1))), (11, (dt (I r))), (13, (dt (I ((c : Nat) : Int)))), (14, (dt (I ((amt ((c : Nat) : Int) (shares f)) + r)))), (81, (dt (B (((c : Nat) : Int) == s)))), (82, (dt (I (amt ((c : Nat) : Int) (shares f))))), (83, (dt (I r))), (84, (dt (I ((amt ((c : Nat) : Int) (shares f)) + r))))] [(2, (.var [(.dat (I f.a)), (.dat (I f.p)), (.dat (I f.m)), (.dat (I f.s)), (.dat (.sl 2 (f.t.map encTrain)))]))]) (True ∧ True ∧ True ∧ True ∧ True ∧ (IntKind.i64.wrap ((amt ((c : Nat) : Int) (shares f)) + r) = ((amt ((c : Nat) : Int) (shares f)) + r)) ∧ True ∧ True ∧ True) (by kernel_rfl) ⟨trivial, trivial, trivial, trivial, trivial, (i64_wrap (by omega) (by omega)), trivial, trivial, trivial⟩ ?_
                  refine T_reg [{}, {}, { d := some (I (amt ((c : Nat) : Int) (pays f s))) }] [1, 2, 5, 7, 9, 11, 13, 89] [] (mk 96 [(1, (dt (I s))), (2, (.one (.ref 2 0))), (5, (dt (.sl 2 ((pays f s).map encPay)))), (7, (dt (.sl 2 ((shares f).map encPay)))), (9, (dt (I (profit f).1))), (11, (dt (I r))), (13, (dt (I ((c : Nat) : Int)))), (89, (dt (B ((amt ((c : Nat) : Int) (pays f s)) != ((amt ((c : Nat) : Int) (shares f)) + r)))))] [(2, (.var [(.dat (I f.a)), (.dat (I f.p)), (.dat (I f.m)), (.dat (I f.s)), (.dat (.sl 2 (f.t.map encTrain)))]))]) (True ∧ True ∧ True ∧ True ∧ True ∧ (Ret Try.prog 21 [(.sl 2 ((pays f s).map encPay)), (I ((c : Nat) : Int))] (I (amt ((c : Nat) : Int) (pays f s)))) ∧ True ∧ True ∧ True ∧ True ∧ True) (by kernel_rfl) ⟨trivial, trivial, trivial, trivial, trivial, (ret_amount (pays f s) _ (by have := pays_len f s; omega)), trivial, trivial, trivial, trivial, trivial⟩ ?_
                  refine T_cond ((amt ((c : Nat) : Int) (pays f s)) != ((amt ((c : Nat) : Int) (shares f)) + r)) (by kernel_rfl) (fun h37 => ?_) (fun h37 => ?_)
                  · skip
                    have g38 : (amt ((c : Nat) : Int) (pays f s)) ≠ ((amt ((c : Nat) : Int) (shares f)) + r) := bne_iff_ne.1 (h37)
                    exact (by exfalso; have hpa := pays_amt (f := f) (s := s) (c := ((c : Nat) : Int)) (by assumption) (by omega); have hr := rest_is ir (by omega); have hh : (amt ((c : Nat) : Int) (pays f s)) ≠ ((amt ((c : Nat) : Int) (shares f)) + r) := (by assumption); (split at hpa <;> split at hpa) <;> omega)
                  · skip
                    have g39 : (amt ((c : Nat) : Int) (pays f s)) = ((amt ((c : Nat) : Int) (shares f)) + r) := bne_f (h37)
                    refine T_skip ?_
                    refine T_regE [{}, { d := some (I ((c + 1 : Nat) : Int)) }] (mk 96 [(1, (dt (I s))), (2, (.one (.ref 2 0))), (5, (dt (.sl 2 ((pays f s).map encPay)))), (7, (dt (.sl 2 ((shares f).map encPay)))), (9, (dt (I (profit f).1))), (11, (dt (I r))), (13, (dt (I ((c + 1 : Nat) : Int)))), (67, (dt (I ((c : Nat) : Int)))), (68, (dt (I ((c + 1 : Nat) : Int)))), (89, (dt (B ((amt ((c : Nat) : Int) (pays f s)) != ((amt ((c : Nat) : Int) (shares f)) + r)))))] [(2, (.var [(.dat (I f.a)), (.dat (I f.p)), (.dat (I f.m)), (.dat (I f.s)), (.dat (.sl 2 (f.t.map encTrain)))]))]) (True ∧ True ∧ True ∧ (IntKind.i64.wrap (((c : Nat) : Int) + 1) = ((c + 1 : Nat) : Int)) ∧ True ∧ True ∧ True) (by kernel_rfl) ⟨trivial, trivial, trivial, (by rw [i64_wrap (by omega) (by omega)]; omega), trivial, trivial, trivial⟩ ?_
                    refine Exists.intro (c + 1) ⟨⟨by omega, trivial⟩, by first | omega | (dsimp only; omega), le_turn [] [1, 2, 5, 7, 9, 11, 13] [] (by kernel_rfl)⟩
                · skip
                  have g40 : ((c : Nat) : Int) ≠ s := ne_of_beq_false (h35)
                  refine T_skip ?_
                  refine T_reg [{}, {}, { d := some (I (amt ((c : Nat) : Int) (pays f s))) }] [1, 2, 5, 7, 9, 11, 13, 89] [] (mk 96 [(1, (dt (I s))), (2, (.one (.ref 2 0))), (5, (dt (.sl 2 ((pays f s).map encPay)))), (7, (dt (.sl 2 ((shares f).map encPay)))), (9, (dt (I (profit f).1))), (11, (dt (I r))), (13, (dt (I ((c : Nat) : Int)))), (89, (dt (B ((amt ((c : Nat) : Int) (pays f s)) != (amt ((c : Nat) : Int) (shares f))))))] [(2, (.var [(.dat (I f.a)), (.dat (I f.p)), (.dat (I f.m)), (.dat (I f.s)), (.dat (.sl 2 (f.t.map encTrain)))]))]) (True ∧ True ∧ True ∧ True ∧ True ∧ (Ret Try.prog 21 [(.sl 2 ((pays f s).map encPay)), (I ((c : Nat) : Int))] (I (amt ((c : Nat) : Int) (pays f s)))) ∧ True ∧ True ∧ True ∧ True ∧ True) (by kernel_rfl) ⟨trivial, trivial, trivial, trivial, trivial, (ret_amount (pays f s) _ (by have := pays_len f s; omega)), trivial, trivial, trivial, trivial, trivial⟩ ?_
                  refine T_cond ((amt ((c : Nat) : Int) (pays f s)) != (amt ((c : Nat) : Int) (shares f))) (by kernel_rfl) (fun h41 => ?_) (fun h41 => ?_)
                  · skip
                    have g42 : (amt ((c : Nat) : Int) (pays f s)) ≠ (amt ((c : Nat) : Int) (shares f)) := bne_iff_ne.1 (h41)
                    exact (by exfalso; have hpa := pays_amt (f := f) (s := s) (c := ((c : Nat) : Int)) (by assumption) (by omega); have hr := rest_is ir (by omega); have hh : (amt ((c : Nat) : Int) (pays f s)) ≠ (amt ((c : Nat) : Int) (shares f)) := (by assumption); (split at hpa <;> split at hpa) <;> omega)
                  · skip
                    have g43 : (amt ((c : Nat) : Int) (pays f s)) = (amt ((c : Nat) : Int) (shares f)) := bne_f (h41)
                    refine T_skip ?_
                    refine T_regE [{}, { d := some (I ((c + 1 : Nat) : Int)) }] (mk 96 [(1, (dt (I s))), (2, (.one (.ref 2 0))), (5, (dt (.sl 2 ((pays f s).map encPay)))), (7, (dt (.sl 2 ((shares f).map encPay)))), (9, (dt (I (profit f).1))), (11, (dt (I r))), (13, (dt (I ((c + 1 : Nat) : Int)))), (67, (dt (I ((c : Nat) : Int)))), (68, (dt (I ((c + 1 : Nat) : Int)))), (89, (dt (B ((amt ((c : Nat) : Int) (pays f s)) != (amt ((c : Nat) : Int) (shares f))))))] [(2, (.var [(.dat (I f.a)), (.dat (I f.p)), (.dat (I f.m)), (.dat (I f.s)), (.dat (.sl 2 (f.t.map encTrain)))]))]) (True ∧ True ∧ True ∧ (IntKind.i64.wrap (((c : Nat) : Int) + 1) = ((c + 1 : Nat) : Int)) ∧ True ∧ True ∧ True) (by kernel_rfl) ⟨trivial, trivial, trivial, (by rw [i64_wrap (by omega) (by omega)]; omega), trivial, trivial, trivial⟩ ?_
                    refine Exists.intro (c + 1) ⟨⟨by omega, trivial⟩, by first | omega | (dsimp only; omega), le_turn [] [1, 2, 5, 7, 9, 11, 13] [] (by kernel_rfl)⟩
            · skip
              have g44 : ¬ (((c : Nat) : Int) < 192) := of_decide_eq_false (h21)
              refine T_exit ?_
              rcases Bool.eq_false_or_eq_true (decide (r ≥ 0)) with h45 | h45
              · skip
                have g46 : r ≥ 0 := of_decide_eq_true (h45)
                refine T_reg [{}, {}, {}, {}, {}, { d := some (B true) }] [4] [2] (mk 96 [(4, (dt (B (decide ((profit f).1 ≥ 0)))))] []) (True ∧ True ∧ True ∧ True ∧ True ∧ True ∧ (((decide (r ≥ 0)) == true) = true) ∧ True ∧ (((decide (r ≥ 0)) == true) = true) ∧ True ∧ True ∧ ((decide (r ≥ 0)) = true) ∧ True ∧ True ∧ True) (by kernel_rfl) ⟨trivial, trivial, trivial, trivial, trivial, trivial, (by rw [show (decide (r ≥ 0)) = true from h45]; rfl), trivial, (by rw [show (decide (r ≥ 0)) = true from h45]; rfl), trivial, trivial, h45, trivial, trivial, trivial⟩ ?_
                refine T_ret ?_
                exact ret_here [(dt (B (decide ((profit f).1 ≥ 0))))] (by kernel_rfl) (.inl (congrArg B (by first | rfl | exact beq_self_eq_true _ | (simp only [decide_eq_true_eq, beq_iff_eq, Bool.not_eq_true, bne_iff_ne, ne_eq] at *; omega) : (decide ((profit f).1 ≥ 0)) = true)))
              · skip
                have g47 : ¬ (r ≥ 0) := of_decide_eq_false (h45)
                refine T_reg [{}, {}, {}, { g := false }, { g := false }, { d := some (B false) }] [4] [2] (mk 96 [(4, (dt (B false)))] []) (True ∧ True ∧ True ∧ True ∧ True ∧ True ∧ (((decide (r ≥ 0)) == true) = false) ∧ (((decide (r ≥ 0)) == true) = false) ∧ True ∧ ((decide (r ≥ 0)) = false) ∧ True ∧ True ∧ True) (by kernel_rfl) ⟨trivial, trivial, trivial, trivial, trivial, trivial, (by rw [show (decide (r ≥ 0)) = false from h45]; rfl), (by rw [show (decide (r ≥ 0)) = false from h45]; rfl), trivial, h45, trivial, trivial, trivial⟩ ?_
                refine T_ret ?_
                exact ret_here [(dt (B false))] (by kernel_rfl) (.inl (congrArg B (by first | rfl | exact beq_self_eq_true _ | (simp only [decide_eq_true_eq, beq_iff_eq, Bool.not_eq_true, bne_iff_ne, ne_eq] at *; omega) : false = true)))

end Go.Proofs.Ythpjlkpkhlkhbaa

/-
  FeesRest returns true for every input and changes none of its arguments. No condition beside the row's own.
-/
namespace Go.Proofs.Ythpjlkpkhlkhbaa
open Go.DL Go.ChangeShapes Go.WideShapes Go.ChangeAt Go.RowKit
set_option maxRecDepth 100000
theorem rest_lifted (os : Os) (started : os.Started) (H : Type) (enc : TypeId × Value → H) :
    ReturnsInHanded {} Try.checked os 5 .any (Rows.feesRestSpec.pre6 enc Try.prog Try.f5 Rows.feesRestRow.domain false) (Rows.feesRestSpec.post enc Try.prog Try.f5 false true false false) := by
  refine returnsInHanded_of_change_sized (C := Try.checked) Try.own started (by kernel_rfl) Try.func5
    (ChangeSpec.witness6 (enc := enc) (C := Try.checked) false ⟨#[], #[.agg #[.int .i64 0, .int .i64 0, .int .i64 0, .int .i64 0, .slice none 0 0], .int .i64 0], []⟩ 8 (by kernel_rfl) (by kernel_rfl) (by kernel_rfl) (by kernel_rfl)) ?_
  intro W base args ds gs before hval0 hW hcnd hwt0 _
  have hval : ∀ (j : Nat) t v, Try.f5.params[j]? = some t → args[j]? = some v → Value.okWide Try.prog W .any base t v := hval0
  have hwt : (DataW.weightsEach Try.prog (Try.f5.params.toList ++ Rows.feesRestSpec.plain.varTypes Try.prog) (ds ++ gs)).all (· ≤ reachBytes) = true := hwt0
  clear hval0 hwt0
  have hW' := hW
  obtain ⟨p, q, hA0, hV, rfl, hfz, hnd⟩ := hW
  have hA : DataW.TrodAll enc Try.prog W 0 (fun _ => true) true Try.f5.params.toList args.toList ds p := hA0
  rw [Try.params5] at hA hval
  obtain ⟨v0, v1, d0, d1, p0, p1, rfl, rfl, rfl, h0, h1⟩ := trodAll_two hA
  obtain ⟨rfl, rfl⟩ := trodVars_none hV
  have hw : ∀ n ∈ DataW.weightsEach Try.prog [24, 3] [d0, d1], n ≤ reachBytes := by
    intro n hn
    have := List.all_eq_true.1 hwt n hn
    exact of_decide_eq_true this
  simp only [DataW.weightsEach, List.mem_append] at hw
  obtain ⟨a0, r0, g0⟩ := arg_agg decFee h0 (hval 0 24 v0 rfl rfl) (by kernel_rfl)
  have k0 := g0 fun n hn => hw n (.inl hn)
  obtain ⟨a1, r1, g1⟩ := arg_one decInt h1 (hval 1 3 v1 rfl rfl) (no_agg_int undInt)
  have k1 := g1 fun n hn => hw n (.inr (.inl hn))
  exact law_call hW' Try.laidOut (by intro t ht; rw [Try.params5] at ht; simp at ht; rcases ht with rfl | rfl <;> exact ⟨by kernel_rfl, of_decide_eq_true (by kernel_rfl)⟩) 4 (by kernel_rfl) undBool rfl rfl
    [_, _] rfl (fun j c hj => match j, hj with
      | 0, hj => by simp at hj; subst hj; exact ⟨v0, rfl, r0⟩
      | 1, hj => by simp at hj; subst hj; exact ⟨v1, rfl, r1⟩
      | j + 2, hj => by simp at hj) (ret_law_rest a0 a1 k0)

theorem rest_holds : Rows.FeesRestSaid :=
  OpenClaim.holds_of_wide 5 Try.f5 rfl rfl rfl rfl rfl rfl rfl ⟨rfl, rfl, rfl, rfl, rfl⟩ rfl rfl rfl rfl rfl (by kernel_rfl) Try.func5 (by kernel_rfl)
    (of_decide_eq_true (by kernel_rfl)) (by unfold Func.isWrapper; first | (rw [if_pos (by decide +kernel)]; kernel_rfl) | (rw [if_neg (by decide +kernel)]; exact ⟨rfl, rfl⟩))
    (fun os started H enc _ => rest_lifted os started H enc)
#print axioms rest_holds
end Go.Proofs.Ythpjlkpkhlkhbaa
