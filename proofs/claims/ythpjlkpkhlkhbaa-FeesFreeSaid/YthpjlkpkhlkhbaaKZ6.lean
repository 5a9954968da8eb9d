/-
  Texts that belong together, one behind the other; what each of them proves, and under which conditions, its own heading says.
-/
import Derived.Test.YthpjlkpkhlkhbaaRows
import Derived.Test.YthpjlkpkhlkhbaaKf
/-
  Walks at the data level, printed by gen.py: what each Go function returns, for data that reads as said. Conditions: those of each theorem.
-/
namespace Go.Proofs.Ythpjlkpkhlkhbaa
open Go.DL
set_option maxRecDepth 100000
set_option linter.unusedVariables false
set_option linter.unusedSimpArgs false
theorem ret_law_free (f : Fee) (s : Int) (ht : f.t.length ≤ 140737488355328) : Ret Try.prog 8 [(.agg [(I f.a), (I f.p), (I f.m), (I f.s), (.sl 2 (f.t.map encTrain))]), (I s)] (B true) := by
  have hpz : ∀ q, paysE f q = 0 → chk f = 0 ∧ (profit f).2 = 0 ∧ 0 ≤ f.a ∧ f.a ≤ 1125899906842624 := fun q h => ⟨(pays_eq h).2.1, profit_err (pays_eq h).2.1, paysE_amount h⟩
  have hpb := profit_bounds (f := f)
  have hsl := shares_len f
  have hp2 := profit_two (f := f)
  have hpl0 := pays_len (freeF f) s
  have hcf := chk_cases f
  have hpz0 := profit_zero (f := f)
  refine Ret.of_T Try.func8 (by kernel_rfl) rfl ?_
  refine T_turn [] [0, 1] [] (mk 79 [(0, (.agg [(.dat (I f.a)), (.dat (I f.p)), (.dat (I f.m)), (.dat (I f.s)), (.dat (.sl 2 (f.t.map encTrain)))])), (1, (dt (I s)))] []) (by kernel_rfl) ?_
  refine T_reg [] [1, 2] [] (mk 79 [(1, (dt (I s))), (2, (.one (.ref 2 0)))] [(2, (.var [(.dat (I f.a)), (.dat (I f.p)), (.dat (I f.m)), (.dat (I f.s)), (.dat (.sl 2 (f.t.map encTrain)))]))]) (True ∧ True ∧ True ∧ True ∧ True) (by kernel_rfl) ⟨trivial, trivial, trivial, trivial, trivial⟩ ?_
  refine T_seq ?_
  refine T_reg [{ d := some (B true) }] [1, 2, 10] [] (mk 79 [(1, (dt (I s))), (2, (.one (.ref 2 0))), (10, (dt (B false)))] [(2, (.var [(.dat (I f.a)), (.dat (I f.p)), (.dat (I f.m)), (.dat (I f.s)), (.dat (.sl 2 (f.t.map encTrain)))]))]) (True ∧ (Ret Try.prog 10 [] (B true)) ∧ True ∧ True ∧ True) (by kernel_rfl) ⟨trivial, ret_sane, trivial, trivial, trivial⟩ ?_
  refine T_cond false (by kernel_rfl) (fun h => absurd (h.symm.trans rfl) (by decide)) (fun _ => ?_)
  refine T_skip ?_
  refine T_seq ?_
  refine T_reg [{}, { d := some (B (decide (f.t.length ≤ 60))) }] [1, 2, 13] [] (mk 79 [(1, (dt (I s))), (2, (.one (.ref 2 0))), (13, (dt (B (!(decide (f.t.length ≤ 60))))))] [(2, (.var [(.dat (I f.a)), (.dat (I f.p)), (.dat (I f.m)), (.dat (I f.s)), (.dat (.sl 2 (f.t.map encTrain)))]))]) (True ∧ True ∧ True ∧ (Ret Try.prog 11 [(.agg [(I f.a), (I f.p), (I f.m), (I f.s), (.sl 2 (f.t.map encTrain))])] (B (decide (f.t.length ≤ 60)))) ∧ True ∧ True ∧ True) (by kernel_rfl) ⟨trivial, trivial, trivial, (ret_few f (by first | assumption | (simp; done) | decide)), trivial, trivial, trivial⟩ ?_
  refine T_cond (!(decide (f.t.length ≤ 60))) (by kernel_rfl) (fun h1 => ?_) (fun h1 => ?_)
  · skip
    have n2 : (decide (f.t.length ≤ 60)) = false := not_t h1
    have g3 : ¬ (f.t.length ≤ 60) := of_decide_eq_false (n2)
    refine T_reg [] [4] [2] (mk 79 [(4, (dt (B true)))] []) (True ∧ True ∧ True) (by kernel_rfl) ⟨trivial, trivial, trivial⟩ ?_
    refine T_ret ?_
    exact ret_here [(dt (B true))] (by kernel_rfl) (.inl rfl)
  · skip
    have n4 : (decide (f.t.length ≤ 60)) = true := not_f h1
    have g5 : (f.t.length ≤ 60) := of_decide_eq_true (n4)
    refine T_skip ?_
    refine T_reg [{}, {}, {}, {}, {}, {}, { d := some (.tup [(.sl 2 ((pays (freeF f) s).map encPay)), (I (paysE (freeF f) s))]) }] [1, 2, 5, 6] [] (mk 79 [(1, (dt (I s))), (2, (.one (.ref 2 0))), (5, (dt (.sl 2 ((pays (freeF f) s).map encPay)))), (6, (dt (I (paysE (freeF f) s))))] [(2, (.var [(.dat (I f.a)), (.dat (I f.p)), (.dat (I f.m)), (.dat (I f.s)), (.dat (.sl 2 (f.t.map encTrain)))]))]) (True ∧ True ∧ True ∧ True ∧ True ∧ True ∧ True ∧ True ∧ True ∧ True ∧ True ∧ True ∧ True ∧ (Ret Try.prog 19 [(.agg [(I f.a), (I f.p), (I (-1)), (I 0), nilS]), (I s)] (.tup [(.sl 2 ((pays (freeF f) s).map encPay)), (I (paysE (freeF f) s))])) ∧ True ∧ True ∧ True ∧ True ∧ True ∧ True ∧ True ∧ True ∧ True ∧ True ∧ True) (by kernel_rfl) ⟨trivial, trivial, trivial, trivial, trivial, trivial, trivial, trivial, trivial, trivial, trivial, trivial, trivial, (Ret.weak (ret_pays (freeF f) s (by show 0 ≤ _; omega)) ⟨(Weak.agg ⟨Weak.refl _, Weak.refl _, Weak.refl _, Weak.refl _, Weak.nil 2, trivial⟩), Weak.refl _, trivial⟩), trivial, trivial, trivial, trivial, trivial, trivial, trivial, trivial, trivial, trivial, trivial⟩ ?_
    refine T_seq ?_
    rcases Bool.eq_false_or_eq_true ((paysE (freeF f) s) == 0) with h6 | h6
    · skip
      have g7 : (paysE (freeF f) s) = 0 := eq_of_beq (h6)
      rcases Bool.eq_false_or_eq_true ((amt s (pays (freeF f) s)) != f.a) with h8 | h8
      · skip
        have g9 : (amt s (pays (freeF f) s)) ≠ f.a := bne_iff_ne.1 (h8)
        exact (by exfalso; have := free_amt (f := f) (s := s) (by assumption); have h9 := this.2.1; have h8 : (amt s (pays (freeF f) s)) ≠ f.a := (by assumption); first | omega | ((split at h9) <;> omega) | ((split at h9) <;> (split at h8) <;> omega))
      · skip
        have g10 : (amt s (pays (freeF f) s)) = f.a := bne_f (h8)
        refine T_regD 18 [{}, {}, {}, {}, {}, { d := some (I (amt s (pays (freeF f) s))) }, {}, {}, {}, {}, {}, { d := some (I (((pays (freeF f) s).length : Nat) : Int)) }, {}, {}, {}, {}, { d := some (B false) }, { d := some (B true) }] [2, 41] [] (mk 79 [(2, (.one (.ref 2 0))), (41, (dt (B ((((pays (freeF f) s).length : Nat) : Int) != (if f.a < 1 then f.a else 1)))))] [(2, (.var [(.dat (I f.a)), (.dat (I f.p)), (.dat (I f.m)), (.dat (I f.s)), (.dat (.sl 2 (f.t.map encTrain)))]))]) ((True ∧ True ∧ True ∧ True ∧ True ∧ True ∧ ((((paysE (freeF f) s) == 0) == true) = true) ∧ True ∧ ((((paysE (freeF f) s) == 0) == true) = true) ∧ True ∧ ((((paysE (freeF f) s) == 0) == true) = true) ∧ (Ret Try.prog 21 [(.sl 2 ((pays (freeF f) s).map encPay)), (I s)] (I (amt s (pays (freeF f) s)))) ∧ ((((paysE (freeF f) s) == 0) == true) = true) ∧ True ∧ ((((paysE (freeF f) s) == 0) == true) = true) ∧ True ∧ ((((paysE (freeF f) s) == 0) == true) = true) ∧ True ∧ ((((paysE (freeF f) s) == 0) == true) = true) ∧ True ∧ ((((amt s (pays (freeF f) s)) != f.a) == false) = true) ∧ True ∧ ((((amt s (pays (freeF f) s)) != f.a) == false) = true) ∧ (True ∧ D.int .i64 (((pays (freeF f) s).map encPay).length : Int) = (I (((pays (freeF f) s).length : Nat) : Int))) ∧ ((((amt s (pays (freeF f) s)) != f.a) == false) = true) ∧ True ∧ ((((amt s (pays (freeF f) s)) != f.a) == false) = true) ∧ True ∧ ((((amt s (pays (freeF f) s)) != f.a) == false) = true) ∧ True ∧ ((((amt s (pays (freeF f) s)) != f.a) == false) = true) ∧ True ∧ ((((paysE (freeF f) s) == 0) == true) = true) ∧ (((amt s (pays (freeF f) s)) != f.a) = false) ∧ True ∧ (((paysE (freeF f) s) == 0) = true) ∧ True) ∧ True) (by kernel_rfl) (by kernel_rfl) (by kernel_rfl) ⟨⟨trivial, trivial, trivial, trivial, trivial, trivial, (by rw [show ((paysE (freeF f) s) == 0) = true from h6]; rfl), trivial, (by rw [show ((paysE (freeF f) s) == 0) = true from h6]; rfl), trivial, (by rw [show ((paysE (freeF f) s) == 0) = true from h6]; rfl), (ret_amount (pays (freeF f) s) _ (by have := pays_len (freeF f) s; omega)), (by rw [show ((paysE (freeF f) s) == 0) = true from h6]; rfl), trivial, (by rw [show ((paysE (freeF f) s) == 0) = true from h6]; rfl), trivial, (by rw [show ((paysE (freeF f) s) == 0) = true from h6]; rfl), trivial, (by rw [show ((paysE (freeF f) s) == 0) = true from h6]; rfl), trivial, (by rw [show ((amt s (pays (freeF f) s)) != f.a) = false from h8]; rfl), trivial, (by rw [show ((amt s (pays (freeF f) s)) != f.a) = false from h8]; rfl), ⟨trivial, by rw [List.length_map]⟩, (by rw [show ((amt s (pays (freeF f) s)) != f.a) = false from h8]; rfl), trivial, (by rw [show ((amt s (pays (freeF f) s)) != f.a) = false from h8]; rfl), trivial, (by rw [show ((amt s (pays (freeF f) s)) != f.a) = false from h8]; rfl), trivial, (by rw [show ((amt s (pays (freeF f) s)) != f.a) = false from h8]; rfl), trivial, (by rw [show ((paysE (freeF f) s) == 0) = true from h6]; rfl), h8, trivial, h6, trivial⟩, trivial⟩ ?_
        refine T_cond ((((pays (freeF f) s).length : Nat) : Int) != (if f.a < 1 then f.a else 1)) (by kernel_rfl) (fun h11 => ?_) (fun h11 => ?_)
        · skip
          have g12 : (((pays (freeF f) s).length : Nat) : Int) ≠ (if f.a < 1 then f.a else 1) := bne_iff_ne.1 (h11)
          exact (by exfalso; have := free_amt (f := f) (s := s) (by assumption); have h9 := this.2.1; have h8 : (((pays (freeF f) s).length : Nat) : Int) ≠ (if f.a < 1 then f.a else 1) := (by assumption); first | omega | ((split at h9) <;> omega) | ((split at h9) <;> (split at h8) <;> omega))
        · skip
          have g13 : (((pays (freeF f) s).length : Nat) : Int) = (if f.a < 1 then f.a else 1) := bne_f (h11)
          refine T_skip ?_
          refine T_reg [{}, { d := some (.tup [(I (profit f).1), (I (profit f).2)]) }] [2, 7, 8] [] (mk 79 [(2, (.one (.ref 2 0))), (7, (dt (I (profit f).1))), (8, (dt (I (profit f).2)))] [(2, (.var [(.dat (I f.a)), (.dat (I f.p)), (.dat (I f.m)), (.dat (I f.s)), (.dat (.sl 2 (f.t.map encTrain)))]))]) (True ∧ True ∧ True ∧ (Ret Try.prog 14 [(.agg [(I f.a), (I f.p), (I f.m), (I f.s), (.sl 2 (f.t.map encTrain))])] (.tup [(I (profit f).1), (I (profit f).2)])) ∧ True ∧ True ∧ True ∧ True ∧ True ∧ True ∧ True ∧ True ∧ True ∧ True ∧ True) (by kernel_rfl) ⟨trivial, trivial, trivial, (ret_profit f (by first | assumption | (simp; done) | decide)), trivial, trivial, trivial, trivial, trivial, trivial, trivial, trivial, trivial, trivial, trivial⟩ ?_
          refine T_seq ?_
          refine T_reg [] [2, 7, 48] [] (mk 79 [(2, (.one (.ref 2 0))), (7, (dt (I (profit f).1))), (48, (dt (B ((profit f).2 != 0))))] [(2, (.var [(.dat (I f.a)), (.dat (I f.p)), (.dat (I f.m)), (.dat (I f.s)), (.dat (.sl 2 (f.t.map encTrain)))]))]) (True ∧ True ∧ True ∧ True ∧ True) (by kernel_rfl) ⟨trivial, trivial, trivial, trivial, trivial⟩ ?_
          refine T_cond ((profit f).2 != 0) (by kernel_rfl) (fun h14 => ?_) (fun h14 => ?_)
          · skip
            have g15 : (profit f).2 ≠ 0 := bne_iff_ne.1 (h14)
            refine T_reg [] [4] [2] (mk 79 [(4, (dt (B ((profit f).1 == 0))))] []) (True ∧ True ∧ True ∧ True ∧ True ∧ True ∧ True) (by kernel_rfl) ⟨trivial, trivial, trivial, trivial, trivial, trivial, trivial⟩ ?_
            refine T_ret ?_
            exact ret_here [(dt (B ((profit f).1 == 0)))] (by kernel_rfl) (.inl (congrArg B (by first | (rfl; done) | (simp only [decide_eq_true_eq, beq_iff_eq] at *; omega; done) | (simp only [decide_eq_true_eq, beq_iff_eq] at *; have := hpz0 (by omega); omega; done) : ((profit f).1 == 0) = true)))
          · skip
            have g16 : (profit f).2 = 0 := bne_f (h14)
            refine T_skip ?_
            refine T_seq ?_
            rcases Bool.eq_false_or_eq_true (decide (f.m < 0)) with h17 | h17
            · skip
              have g18 : f.m < 0 := of_decide_eq_true (h17)
              refine T_reg [{}, {}, {}, {}, { g := false }, { g := false }, { g := false }, { d := some (B true) }, {}, { g := false }, { g := false }, { g := false }, { g := false }, { g := false }, { d := some (B true) }] [2, 7, 65] [] (mk 79 [(2, (.one (.ref 2 0))), (7, (dt (I (profit f).1))), (65, (dt (B true)))] [(2, (.var [(.dat (I f.a)), (.dat (I f.p)), (.dat (I f.m)), (.dat (I f.s)), (.dat (.sl 2 (f.t.map encTrain)))]))]) (True ∧ True ∧ True ∧ True ∧ True ∧ True ∧ True ∧ True ∧ (((decide (f.m < 0)) == false) = false) ∧ (((decide (f.m < 0)) == false) = false) ∧ (((decide (f.m < 0)) == false) = false) ∧ True ∧ ((decide (f.m < 0)) = true) ∧ True ∧ True ∧ ((true == false) = false) ∧ ((true == false) = false) ∧ ((true == false) = false) ∧ ((true == false) = false) ∧ ((true == false) = false) ∧ True ∧ (true = true) ∧ True) (by kernel_rfl) ⟨trivial, trivial, trivial, trivial, trivial, trivial, trivial, trivial, (by rw [show (decide (f.m < 0)) = true from h17]; rfl), (by rw [show (decide (f.m < 0)) = true from h17]; rfl), (by rw [show (decide (f.m < 0)) = true from h17]; rfl), trivial, h17, trivial, trivial, (by rw [show true = true from rfl]; rfl), (by rw [show true = true from rfl]; rfl), (by rw [show true = true from rfl]; rfl), (by rw [show true = true from rfl]; rfl), (by rw [show true = true from rfl]; rfl), trivial, rfl, trivial⟩ ?_
              refine T_cond true (by kernel_rfl) (fun _ => ?_) (fun h => absurd (h.symm.trans rfl) (by decide))
              refine T_reg [] [4] [2] (mk 79 [(4, (dt (B ((profit f).1 == 0))))] []) (True ∧ True ∧ True ∧ True ∧ True ∧ True ∧ True) (by kernel_rfl) ⟨trivial, trivial, trivial, trivial, trivial, trivial, trivial⟩ ?_
              refine T_ret ?_
              exact ret_here [(dt (B ((profit f).1 == 0)))] (by kernel_rfl) (.inl (congrArg B (by first | (rfl; done) | (simp only [decide_eq_true_eq, beq_iff_eq] at *; omega; done) | (simp only [decide_eq_true_eq, beq_iff_eq] at *; have := hpz0 (by omega); omega; done) : ((profit f).1 == 0) = true)))
            · skip
              have g19 : ¬ (f.m < 0) := of_decide_eq_false (h17)
              rcases Bool.eq_false_or_eq_true (f.s == 0) with h20 | h20
              · skip
                have g21 : f.s = 0 := eq_of_beq (h20)
                refine T_reg [{}, {}, {}, {}, {}, {}, {}, { d := some (B false) }, {}, { g := false }, { g := false }, { g := false }, { g := false }, { g := false }, { d := some (B true) }] [2, 7, 65] [] (mk 79 [(2, (.one (.ref 2 0))), (7, (dt (I (profit f).1))), (65, (dt (B true)))] [(2, (.var [(.dat (I f.a)), (.dat (I f.p)), (.dat (I f.m)), (.dat (I f.s)), (.dat (.sl 2 (f.t.map encTrain)))]))]) (True ∧ True ∧ True ∧ True ∧ True ∧ True ∧ True ∧ True ∧ (((decide (f.m < 0)) == false) = true) ∧ True ∧ (((decide (f.m < 0)) == false) = true) ∧ True ∧ (((decide (f.m < 0)) == false) = true) ∧ True ∧ True ∧ ((decide (f.m < 0)) = false) ∧ True ∧ True ∧ (((f.s == 0) == false) = false) ∧ (((f.s == 0) == false) = false) ∧ (((f.s == 0) == false) = false) ∧ (((f.s == 0) == false) = false) ∧ (((f.s == 0) == false) = false) ∧ True ∧ ((f.s == 0) = true) ∧ True) (by kernel_rfl) ⟨trivial, trivial, trivial, trivial, trivial, trivial, trivial, trivial, (by rw [show (decide (f.m < 0)) = false from h17]; rfl), trivial, (by rw [show (decide (f.m < 0)) = false from h17]; rfl), trivial, (by rw [show (decide (f.m < 0)) = false from h17]; rfl), trivial, trivial, h17, trivial, trivial, (by rw [show (f.s == 0) = true from h20]; rfl), (by rw [show (f.s == 0) = true from h20]; rfl), (by rw [show (f.s == 0) = true from h20]; rfl), (by rw [show (f.s == 0) = true from h20]; rfl), (by rw [show (f.s == 0) = true from h20]; rfl), trivial, h20, trivial⟩ ?_
                refine T_cond true (by kernel_rfl) (fun _ => ?_) (fun h => absurd (h.symm.trans rfl) (by decide))
                refine T_reg [] [4] [2] (mk 79 [(4, (dt (B ((profit f).1 == 0))))] []) (True ∧ True ∧ True ∧ True ∧ True ∧ True ∧ True) (by kernel_rfl) ⟨trivial, trivial, trivial, trivial, trivial, trivial, trivial⟩ ?_
                refine T_ret ?_
                exact ret_here [(dt (B ((profit f).1 == 0)))] (by kernel_rfl) (.inl (congrArg B (by first | (rfl; done) | (simp only [decide_eq_true_eq, beq_iff_eq] at *; omega; done) | (simp only [decide_eq_true_eq, beq_iff_eq] at *; have := hpz0 (by omega); omega; done) : ((profit f).1 == 0) = true)))
              · skip
                have g22 : f.s ≠ 0 := ne_of_beq_false (h20)
                refine T_reg [{}, {}, {}, {}, {}, {}, {}, { d := some (B false) }, {}, {}, {}, {}, {}, {}, { d := some (B false) }] [2, 7, 65] [] (mk 79 [(2, (.one (.ref 2 0))), (7, (dt (I (profit f).1))), (65, (dt (B (decide (f.a ≤ f.p)))))] [(2, (.var [(.dat (I f.a)), (.dat (I f.p)), (.dat (I f.m)), (.dat (I f.s)), (.dat (.sl 2 (f.t.map encTrain)))]))]) (True ∧ True ∧ True ∧ True ∧ True ∧ True ∧ True ∧ True ∧ (((decide (f.m < 0)) == false) = true) ∧ True ∧ (((decide (f.m < 0)) == false) = true) ∧ True ∧ (((decide (f.m < 0)) == false) = true) ∧ True ∧ True ∧ ((decide (f.m < 0)) = false) ∧ True ∧ True ∧ (((f.s == 0) == false) = true) ∧ True ∧ (((f.s == 0) == false) = true) ∧ True ∧ (((f.s == 0) == false) = true) ∧ True ∧ (((f.s == 0) == false) = true) ∧ True ∧ (((f.s == 0) == false) = true) ∧ True ∧ True ∧ ((f.s == 0) = false) ∧ True) (by kernel_rfl) ⟨trivial, trivial, trivial, trivial, trivial, trivial, trivial, trivial, (by rw [show (decide (f.m < 0)) = false from h17]; rfl), trivial, (by rw [show (decide (f.m < 0)) = false from h17]; rfl), trivial, (by rw [show (decide (f.m < 0)) = false from h17]; rfl), trivial, trivial, h17, trivial, trivial, (by rw [show (f.s == 0) = false from h20]; rfl), trivial, (by rw [show (f.s == 0) = false from h20]; rfl), trivial, (by rw [show (f.s == 0) = false from h20]; rfl), trivial, (by rw [show (f.s == 0) = false from h20]; rfl), trivial, (by rw [show (f.s == 0) = false from h20]; rfl), trivial, trivial, h20, trivial⟩ ?_
                refine T_cond (decide (f.a ≤ f.p)) (by kernel_rfl) (fun h23 => ?_) (fun h23 => ?_)
                · skip
                  have g24 : f.a ≤ f.p := of_decide_eq_true (h23)
                  refine T_reg [] [4] [2] (mk 79 [(4, (dt (B ((profit f).1 == 0))))] []) (True ∧ True ∧ True ∧ True ∧ True ∧ True ∧ True) (by kernel_rfl) ⟨trivial, trivial, trivial, trivial, trivial, trivial, trivial⟩ ?_
                  refine T_ret ?_
                  exact ret_here [(dt (B ((profit f).1 == 0)))] (by kernel_rfl) (.inl (congrArg B (by first | (rfl; done) | (simp only [decide_eq_true_eq, beq_iff_eq] at *; omega; done) | (simp only [decide_eq_true_eq, beq_iff_eq] at *; have := hpz0 (by omega); omega; done) : ((profit f).1 == 0) = true)))
                · skip
                  have g25 : ¬ (f.a ≤ f.p) := of_decide_eq_false (h23)
                  refine T_skip ?_
                  rcases Bool.eq_false_or_eq_true (decide ((profit f).1 ≥ 0)) with h26 | h26
                  · skip
                    have g27 : (profit f).1 ≥ 0 := of_decide_eq_true (h26)
                    refine T_reg [{}, {}, {}, {}, {}, {}, {}, {}, { d := some (I (f.a - f.p)) }, {}, { d := some (B true) }] [4] [2] (mk 79 [(4, (dt (B (decide ((profit f).1 ≤ (f.a - f.p))))))] []) (True ∧ True ∧ True ∧ True ∧ True ∧ True ∧ (((decide ((profit f).1 ≥ 0)) == true) = true) ∧ True ∧ (((decide ((profit f).1 ≥ 0)) == true) = true) ∧ True ∧ (((decide ((profit f).1 ≥ 0)) == true) = true) ∧ True ∧ (((decide ((profit f).1 ≥ 0)) == true) = true) ∧ True ∧ (((decide ((profit f).1 ≥ 0)) == true) = true) ∧ True ∧ (((decide ((profit f).1 ≥ 0)) == true) = true) ∧ (IntKind.i64.wrap (f.a - f.p) = (f.a - f.p)) ∧ (((decide ((profit f).1 ≥ 0)) == true) = true) ∧ True ∧ True ∧ ((decide ((profit f).1 ≥ 0)) = true) ∧ True ∧ True ∧ True) (by kernel_rfl) ⟨trivial, trivial, trivial, trivial, trivial, trivial, (by rw [show (decide ((profit f).1 ≥ 0)) = true from h26]; rfl), trivial, (by rw [show (decide ((profit f).1 ≥ 0)) = true from h26]; rfl), trivial, (by rw [show (decide ((profit f).1 ≥ 0)) = true from h26]; rfl), trivial, (by rw [show (decide ((profit f).1 ≥ 0)) = true from h26]; rfl), trivial, (by rw [show (decide ((profit f).1 ≥ 0)) = true from h26]; rfl), trivial, (by rw [show (decide ((profit f).1 ≥ 0)) = true from h26]; rfl), (i64_wrap (by have hb := solid_bounds f (by omega); omega) (by have hb := solid_bounds f (by omega); omega)), (by rw [show (decide ((profit f).1 ≥ 0)) = true from h26]; rfl), trivial, trivial, h26, trivial, trivial, trivial⟩ ?_
                    refine T_ret ?_
                    exact ret_here [(dt (B (decide ((profit f).1 ≤ (f.a - f.p)))))] (by kernel_rfl) (.inl (congrArg B (by first | (rfl; done) | (simp only [decide_eq_true_eq, beq_iff_eq] at *; omega; done) | (simp only [decide_eq_true_eq, beq_iff_eq] at *; have := hpz0 (by omega); omega; done) : (decide ((profit f).1 ≤ (f.a - f.p))) = true)))
                  · skip
                    have g28 : ¬ ((profit f).1 ≥ 0) := of_decide_eq_false (h26)
                    refine T_reg [{}, {}, {}, { g := false }, { g := false }, { g := false }, { g := false }, { g := false }, { g := false }, { g := false }, { d := some (B false) }] [4] [2] (mk 79 [(4, (dt (B false)))] []) (True ∧ True ∧ True ∧ True ∧ True ∧ True ∧ (((decide ((profit f).1 ≥ 0)) == true) = false) ∧ (((decide ((profit f).1 ≥ 0)) == true) = false) ∧ (((decide ((profit f).1 ≥ 0)) == true) = false) ∧ (((decide ((profit f).1 ≥ 0)) == true) = false) ∧ (((decide ((profit f).1 ≥ 0)) == true) = false) ∧ (((decide ((profit f).1 ≥ 0)) == true) = false) ∧ (((decide ((profit f).1 ≥ 0)) == true) = false) ∧ True ∧ ((decide ((profit f).1 ≥ 0)) = false) ∧ True ∧ True ∧ True) (by kernel_rfl) ⟨trivial, trivial, trivial, trivial, trivial, trivial, (by rw [show (decide ((profit f).1 ≥ 0)) = false from h26]; rfl), (by rw [show (decide ((profit f).1 ≥ 0)) = false from h26]; rfl), (by rw [show (decide ((profit f).1 ≥ 0)) = false from h26]; rfl), (by rw [show (decide ((profit f).1 ≥ 0)) = false from h26]; rfl), (by rw [show (decide ((profit f).1 ≥ 0)) = false from h26]; rfl), (by rw [show (decide ((profit f).1 ≥ 0)) = false from h26]; rfl), (by rw [show (decide ((profit f).1 ≥ 0)) = false from h26]; rfl), trivial, h26, trivial, trivial, trivial⟩ ?_
                    refine T_ret ?_
                    exact ret_here [(dt (B false))] (by kernel_rfl) (.inl (congrArg B (by first | (rfl; done) | (simp only [decide_eq_true_eq, beq_iff_eq] at *; omega; done) | (simp only [decide_eq_true_eq, beq_iff_eq] at *; have := hpz0 (by omega); omega; done) : false = true)))
    · skip
      have g29 : (paysE (freeF f) s) ≠ 0 := ne_of_beq_false (h6)
      refine T_regD 18 [{}, {}, {}, { g := false }, { g := false }, { g := false }, { g := false }, { g := false }, { g := false }, { g := false }, {}, {}, {}, {}, {}, {}, { g := false }, { d := some (B false) }] [2, 41] [] (mk 79 [(2, (.one (.ref 2 0))), (41, (dt (B false)))] [(2, (.var [(.dat (I f.a)), (.dat (I f.p)), (.dat (I f.m)), (.dat (I f.s)), (.dat (.sl 2 (f.t.map encTrain)))]))]) ((True ∧ True ∧ True ∧ True ∧ True ∧ True ∧ ((((paysE (freeF f) s) == 0) == true) = false) ∧ ((((paysE (freeF f) s) == 0) == true) = false) ∧ ((((paysE (freeF f) s) == 0) == true) = false) ∧ ((((paysE (freeF f) s) == 0) == true) = false) ∧ ((((paysE (freeF f) s) == 0) == true) = false) ∧ ((((paysE (freeF f) s) == 0) == true) = false) ∧ ((((paysE (freeF f) s) == 0) == true) = false) ∧ True ∧ True ∧ True ∧ True ∧ True ∧ True ∧ ((((paysE (freeF f) s) == 0) == true) = false) ∧ True ∧ (((paysE (freeF f) s) == 0) = false) ∧ True) ∧ True) (by kernel_rfl) (by kernel_rfl) (by kernel_rfl) ⟨⟨trivial, trivial, trivial, trivial, trivial, trivial, (by rw [show ((paysE (freeF f) s) == 0) = false from h6]; rfl), (by rw [show ((paysE (freeF f) s) == 0) = false from h6]; rfl), (by rw [show ((paysE (freeF f) s) == 0) = false from h6]; rfl), (by rw [show ((paysE (freeF f) s) == 0) = false from h6]; rfl), (by rw [show ((paysE (freeF f) s) == 0) = false from h6]; rfl), (by rw [show ((paysE (freeF f) s) == 0) = false from h6]; rfl), (by rw [show ((paysE (freeF f) s) == 0) = false from h6]; rfl), trivial, trivial, trivial, trivial, trivial, trivial, (by rw [show ((paysE (freeF f) s) == 0) = false from h6]; rfl), trivial, h6, trivial⟩, trivial⟩ ?_
      refine T_cond false (by kernel_rfl) (fun h => absurd (h.symm.trans rfl) (by decide)) (fun _ => ?_)
      refine T_skip ?_
      refine T_reg [{}, { d := some (.tup [(I (profit f).1), (I (profit f).2)]) }] [2, 7, 8] [] (mk 79 [(2, (.one (.ref 2 0))), (7, (dt (I (profit f).1))), (8, (dt (I (profit f).2)))] [(2, (.var [(.dat (I f.a)), (.dat (I f.p)), (.dat (I f.m)), (.dat (I f.s)), (.dat (.sl 2 (f.t.map encTrain)))]))]) (True ∧ True ∧ True ∧ (Ret Try.prog 14 [(.agg [(I f.a), (I f.p), (I f.m), (I f.s), (.sl 2 (f.t.map encTrain))])] (.tup [(I (profit f).1), (I (profit f).2)])) ∧ True ∧ True ∧ True ∧ True ∧ True ∧ True ∧ True ∧ True ∧ True ∧ True ∧ True) (by kernel_rfl) ⟨trivial, trivial, trivial, (ret_profit f (by first | assumption | (simp; done) | decide)), trivial, trivial, trivial, trivial, trivial, trivial, trivial, trivial, trivial, trivial, trivial⟩ ?_
      refine T_seq ?_
      refine T_reg [] [2, 7, 48] [] (mk 79 [(2, (.one (.ref 2 0))), (7, (dt (I (profit f).1))), (48, (dt (B ((profit f).2 != 0))))] [(2, (.var [(.dat (I f.a)), (.dat (I f.p)), (.dat (I f.m)), (.dat (I f.s)), (.dat (.sl 2 (f.t.map encTrain)))]))]) (True ∧ True ∧ True ∧ True ∧ True) (by kernel_rfl) ⟨trivial, trivial, trivial, trivial, trivial⟩ ?_
      refine T_cond ((profit f).2 != 0) (by kernel_rfl) (fun h30 => ?_) (fun h30 => ?_)
      · skip
        have g31 : (profit f).2 ≠ 0 := bne_iff_ne.1 (h30)
        refine T_reg [] [4] [2] (mk 79 [(4, (dt (B ((profit f).1 == 0))))] []) (True ∧ True ∧ True ∧ True ∧ True ∧ True ∧ True) (by kernel_rfl) ⟨trivial, trivial, trivial, trivial, trivial, trivial, trivial⟩ ?_
        refine T_ret ?_
        exact ret_here [(dt (B ((profit f).1 == 0)))] (by kernel_rfl) (.inl (congrArg B (by first | (rfl; done) | (simp only [decide_eq_true_eq, beq_iff_eq] at *; omega; done) | (simp only [decide_eq_true_eq, beq_iff_eq] at *; have := hpz0 (by omega); omega; done) : ((profit f).1 == 0) = true)))
      · skip
        have g32 : (profit f).2 = 0 := bne_f (h30)
        refine T_skip ?_
        refine T_seq ?_
        rcases Bool.eq_false_or_eq_true (decide (f.m < 0)) with h33 | h33
        · skip
          have g34 : f.m < 0 := of_decide_eq_true (h33)
          refine T_reg [{}, {}, {}, {}, { g := false }, { g := false }, { g := false }, { d := some (B true) }, {}, { g := false }, { g := false }, { g := false }, { g := false }, { g := false }, { d := some (B true) }] [2, 7, 65] [] (mk 79 [(2, (.one (.ref 2 0))), (7, (dt (I (profit f).1))), (65, (dt (B true)))] [(2, (.var [(.dat (I f.a)), (.dat (I f.p)), (.dat (I f.m)), (.dat (I f.s)), (.dat (.sl 2 (f.t.map encTrain)))]))]) (True ∧ True ∧ True ∧ True ∧ True ∧ True ∧ True ∧ True ∧ (((decide (f.m < 0)) == false) = false) ∧ (((decide (f.m < 0)) == false) = false) ∧ (((decide (f.m < 0)) == false) = false) ∧ True ∧ ((decide (f.m < 0)) = true) ∧ True ∧ True ∧ ((true == false) = false) ∧ ((true == false) = false) ∧ ((true == false) = false) ∧ ((true == false) = false) ∧ ((true == false) = false) ∧ True ∧ (true = true) ∧ True) (by kernel_rfl) ⟨trivial, trivial, trivial, trivial, trivial, trivial, trivial, trivial, (by rw [show (decide (f.m < 0)) = true from h33]; rfl), (by rw [show (decide (f.m < 0)) = true from h33]; rfl), (by rw [show (decide (f.m < 0)) = true from h33]; rfl), trivial, h33, trivial, trivial, (by rw [show true = true from rfl]; rfl), (by rw [show true = true from rfl]; rfl), (by rw [show true = true from rfl]; rfl), (by rw [show true = true from rfl]; rfl), (by rw [show true = true from rfl]; rfl), trivial, rfl, trivial⟩ ?_
          refine T_cond true (by kernel_rfl) (fun _ => ?_) (fun h => absurd (h.symm.trans rfl) (by decide))
          refine T_reg [] [4] [2] (mk 79 [(4, (dt (B ((profit f).1 == 0))))] []) (True ∧ True ∧ True ∧ True ∧ True ∧ True ∧ True) (by kernel_rfl) ⟨trivial, trivial, trivial, trivial, trivial, trivial, trivial⟩ ?_
          refine T_ret ?_
          exact ret_here [(dt (B ((profit f).1 == 0)))] (by kernel_rfl) (.inl (congrArg B (by first | (rfl; done) | (simp only [decide_eq_true_eq, beq_iff_eq] at *; omega; done) | (simp only [decide_eq_true_eq, beq_iff_eq] at *; have := hpz0 (by omega); omega; done) : ((profit f).1 == 0) = true)))
        · skip
          have g35 : ¬ (f.m < 0) := of_decide_eq_false (h33)
          rcases Bool.eq_false_or_eq_true (f.s == 0) with h36 | h36
          · skip
            have g37 : f.s = 0 := eq_of_beq (h36)
            refine T_reg [{}, {}, {}, {}, {}, {}, {}, { d := some (B false) }, {}, { g := false }, { g := false }, { g := false }, { g := false }, { g := false }, { d := some (B true) }] [2, 7, 65] [] (mk 79 [(2, (.one (.ref 2 0))), (7, (dt (I (profit f).1))), (65, (dt (B true)))] [(2, (.var [(.dat (I f.a)), (.dat (I f.p)), (.dat (I f.m)), (.dat (I f.s)), (.dat (.sl 2 (f.t.map encTrain)))]))]) (True ∧ True ∧ True ∧ True ∧ True ∧ True ∧ True ∧ True ∧ (((decide (f.m < 0)) == false) = true) ∧ True ∧ (((decide (f.m < 0)) == false) = true) ∧ True ∧ (((decide (f.m < 0)) == false) = true) ∧ True ∧ True ∧ ((decide (f.m < 0)) = false) ∧ True ∧ True ∧ (((f.s == 0) == false) = false) ∧ (((f.s == 0) == false) = false) ∧ (((f.s == 0) == false) = false) ∧ (((f.s == 0) == false) = false) ∧ (((f.s == 0) == false) = false) ∧ True ∧ ((f.s == 0) = true) ∧ True) (by kernel_rfl) ⟨trivial, trivial, trivial, trivial, trivial, trivial, trivial, trivial, (by rw [show (decide (f.m < 0)) = false from h33]; rfl), trivial, (by rw [show (decide (f.m < 0)) = false from h33]; rfl), trivial, (by rw [show (decide (f.m < 0)) = false from h33]; rfl), trivial, trivial, h33, trivial, trivial, (by rw [show (f.s == 0) = true from h36]; rfl), (by rw [show (f.s == 0) = true from h36]; rfl), (by rw [show (f.s == 0) = true from h36]; rfl), (by rw [show (f.s == 0) = true from h36]; rfl), (by rw [show (f.s == 0) = true from h36]; rfl), trivial, h36, trivial⟩ ?_
            refine T_cond true (by kernel_rfl) (fun _ => ?_) (fun h => absurd (h.symm.trans rfl) (by decide))
            refine T_reg [] [4] [2] (mk 79 [(4, (dt (B ((profit f).1 == 0))))] []) (True ∧ True ∧ True ∧ True ∧ True ∧ True ∧ True) (by kernel_rfl) ⟨trivial, trivial, trivial, trivial, trivial, trivial, trivial⟩ ?_
            refine T_ret ?_
            exact ret_here [(dt (B ((profit f).1 == 0)))] (by kernel_rfl) (.inl (congrArg B (by first | (rfl; done) | (simp only [decide_eq_true_eq, beq_iff_eq] at *; omega; done) | (simp only [decide_eq_true_eq, beq_iff_eq] at *; have := hpz0 (by omega); omega; done) : ((profit f).1 == 0) = true)))
          · skip
            have g38 : f.s ≠ 0 := ne_of_beq_false (h36)
            refine T_reg [{}, {}, {}, {}, {}, {}, {}, { d := some (B false) }, {}, {}, {}, {}, {}, {}, { d := some (B false) }] [2, 7, 65] [] (mk 79 [(2, (.one (.ref 2 0))), (7, (dt (I (profit f).1))), (65, (dt (B (decide (f.a ≤ f.p)))))] [(2, (.var [(.dat (I f.a)), (.dat (I f.p)), (.dat (I f.m)), (.dat (I f.s)), (.dat (.sl 2 (f.t.map encTrain)))]))]) (True ∧ True ∧ True ∧ True ∧ True ∧ True ∧ True ∧ True ∧ (((decide (f.m < 0)) == false) = true) ∧ True ∧ (((decide (f.m < 0)) == false) = true) ∧ True ∧ (((decide (f.m < 0)) == false) = true) ∧ True ∧ True ∧ ((decide (f.m < 0)) = false) ∧ True ∧ True ∧ (((f.s == 0) == false) = true) ∧ True ∧ (((f.s == 0) == false) = true) ∧ True ∧ (((f.s == 0) == false) = true) ∧ True ∧ (((f.s == 0) == false) = true) ∧ True ∧ (((f.s == 0) == false) = true) ∧ True ∧ True ∧ ((f.s == 0) = false) ∧ True) (by kernel_rfl) ⟨trivial, trivial, trivial, trivial, trivial, trivial, trivial, trivial, (by rw [show (decide (f.m < 0)) = false from h33]; rfl), trivial, (by rw [show (decide (f.m < 0)) = false from h33]; rfl), trivial, (by rw [show (decide (f.m < 0)) = false from h33]; rfl), trivial, trivial, h33, trivial, trivial, (by rw [show (f.s == 0) = false from h36]; rfl), trivial, (by rw [show (f.s == 0) = false from h36]; rfl), trivial, (by rw [show (f.s == 0) = false from h36]; rfl), trivial, (by rw [show (f.s == 0) = false from h36]; rfl), trivial, (by rw [show (f.s == 0) = false from h36]; rfl), trivial, trivial, h36, trivial⟩ ?_
            refine T_cond (decide (f.a ≤ f.p)) (by kernel_rfl) (fun h39 => ?_) (fun h39 => ?_)
            · skip
              have g40 : f.a ≤ f.p := of_decide_eq_true (h39)
              refine T_reg [] [4] [2] (mk 79 [(4, (dt (B ((profit f).1 == 0))))] []) (True ∧ True ∧ True ∧ True ∧ True ∧ True ∧ True) (by kernel_rfl) ⟨trivial, trivial, trivial, trivial, trivial, trivial, trivial⟩ ?_
              refine T_ret ?_
              exact ret_here [(dt (B ((profit f).1 == 0)))] (by kernel_rfl) (.inl (congrArg B (by first | (rfl; done) | (simp only [decide_eq_true_eq, beq_iff_eq] at *; omega; done) | (simp only [decide_eq_true_eq, beq_iff_eq] at *; have := hpz0 (by omega); omega; done) : ((profit f).1 == 0) = true)))
            · skip
              have g41 : ¬ (f.a ≤ f.p) := of_decide_eq_false (h39)
              refine T_skip ?_
              rcases Bool.eq_false_or_eq_true (decide ((profit f).1 ≥ 0)) with h42 | h42
              · skip
                have g43 : (profit f).1 ≥ 0 := of_decide_eq_true (h42)
                refine T_reg [{}, {}, {}, {}, {}, {}, {}, {}, { d := some (I (f.a - f.p)) }, {}, { d := some (B true) }] [4] [2] (mk 79 [(4, (dt (B (decide ((profit f).1 ≤ (f.a - f.p))))))] []) (True ∧ True ∧ True ∧ True ∧ True ∧ True ∧ (((decide ((profit f).1 ≥ 0)) == true) = true) ∧ True ∧ (((decide ((profit f).1 ≥ 0)) == true) = true) ∧ True ∧ (((decide ((profit f).1 ≥ 0)) == true) = true) ∧ True ∧ (((decide ((profit f).1 ≥ 0)) == true) = true) ∧ True ∧ (((decide ((profit f).1 ≥ 0)) == true) = true) ∧ True ∧ (((decide ((profit f).1 ≥ 0)) == true) = true) ∧ (IntKind.i64.wrap (f.a - f.p) = (f.a - f.p)) ∧ (((decide ((profit f).1 ≥ 0)) == true) = true) ∧ True ∧ True ∧ ((decide ((profit f).1 ≥ 0)) = true) ∧ True ∧ True ∧ True) (by kernel_rfl) ⟨trivial, trivial, trivial, trivial, trivial, trivial, (by rw [show (decide ((profit f).1 ≥ 0)) = true from h42]; rfl), trivial, (by rw [show (decide ((profit f).1 ≥ 0)) = true from h42]; rfl), trivial, (by rw [show (decide ((profit f).1 ≥ 0)) = true from h42]; rfl), trivial, (by rw [show (decide ((profit f).1 ≥ 0)) = true from h42]; rfl), trivial, (by rw [show (decide ((profit f).1 ≥ 0)) = true from h42]; rfl), trivial, (by rw [show (decide ((profit f).1 ≥ 0)) = true from h42]; rfl), (i64_wrap (by have hb := solid_bounds f (by omega); omega) (by have hb := solid_bounds f (by omega); omega)), (by rw [show (decide ((profit f).1 ≥ 0)) = true from h42]; rfl), trivial, trivial, h42, trivial, trivial, trivial⟩ ?_
                refine T_ret ?_
                exact ret_here [(dt (B (decide ((profit f).1 ≤ (f.a - f.p)))))] (by kernel_rfl) (.inl (congrArg B (by first | (rfl; done) | (simp only [decide_eq_true_eq, beq_iff_eq] at *; omega; done) | (simp only [decide_eq_true_eq, beq_iff_eq] at *; have := hpz0 (by omega); omega; done) : (decide ((profit f).1 ≤ (f.a - f.p))) = true)))
              · skip
                have g44 : ¬ ((profit f).1 ≥ 0) := of_decide_eq_false (h42)
                refine T_reg [{}, {}, {}, { g := false }, { g := false }, { g := false }, { g := false }, { g := false }, { g := false }, { g := false }, { d := some (B false) }] [4] [2] (mk 79 [(4, (dt (B false)))] []) (True ∧ True ∧ True ∧ True ∧ True ∧ True ∧ (((decide ((profit f).1 ≥ 0)) == true) = false) ∧ (((decide ((profit f).1 ≥ 0)) == true) = false) ∧ (((decide ((profit f).1 ≥ 0)) == true) = false) ∧ (((decide ((profit f).1 ≥ 0)) == true) = false) ∧ (((decide ((profit f).1 ≥ 0)) == true) = false) ∧ (((decide ((profit f).1 ≥ 0)) == true) = false) ∧ (((decide ((profit f).1 ≥ 0)) == true) = false) ∧ True ∧ ((decide ((profit f).1 ≥ 0)) = false) ∧ True ∧ True ∧ True) (by kernel_rfl) ⟨trivial, trivial, trivial, trivial, trivial, trivial, (by rw [show (decide ((profit f).1 ≥ 0)) = false from h42]; rfl), (by rw [show (decide ((profit f).1 ≥ 0)) = false from h42]; rfl), (by rw [show (decide ((profit f).1 ≥ 0)) = false from h42]; rfl), (by rw [show (decide ((profit f).1 ≥ 0)) = false from h42]; rfl), (by rw [show (decide ((profit f).1 ≥ 0)) = false from h42]; rfl), (by rw [show (decide ((profit f).1 ≥ 0)) = false from h42]; rfl), (by rw [show (decide ((profit f).1 ≥ 0)) = false from h42]; rfl), trivial, h42, trivial, trivial, trivial⟩ ?_
                refine T_ret ?_
                exact ret_here [(dt (B false))] (by kernel_rfl) (.inl (congrArg B (by first | (rfl; done) | (simp only [decide_eq_true_eq, beq_iff_eq] at *; omega; done) | (simp only [decide_eq_true_eq, beq_iff_eq] at *; have := hpz0 (by omega); omega; done) : false = true)))

end Go.Proofs.Ythpjlkpkhlkhbaa

/-
  FeesFree returns true for every input and changes none of its arguments. No condition beside the row's own.
-/
namespace Go.Proofs.Ythpjlkpkhlkhbaa
open Go.DL Go.ChangeShapes Go.WideShapes Go.ChangeAt Go.RowKit
set_option maxRecDepth 100000
theorem free_lifted (os : Os) (started : os.Started) (H : Type) (enc : TypeId × Value → H) :
    ReturnsInHanded {} Try.checked os 8 .any (Rows.feesFreeSpec.pre6 enc Try.prog Try.f8 Rows.feesFreeRow.domain false) (Rows.feesFreeSpec.post enc Try.prog Try.f8 false true false false) := by
  refine returnsInHanded_of_change_sized (C := Try.checked) Try.own started (by kernel_rfl) Try.func8
    (ChangeSpec.witness6 (enc := enc) (C := Try.checked) false ⟨#[], #[.agg #[.int .i64 0, .int .i64 0, .int .i64 0, .int .i64 0, .slice none 0 0], .int .i64 0], []⟩ 8 (by kernel_rfl) (by kernel_rfl) (by kernel_rfl) (by kernel_rfl)) ?_
  intro W base args ds gs before hval0 hW hcnd hwt0 _
  have hval : ∀ (j : Nat) t v, Try.f8.params[j]? = some t → args[j]? = some v → Value.okWide Try.prog W .any base t v := hval0
  have hwt : (DataW.weightsEach Try.prog (Try.f8.params.toList ++ Rows.feesFreeSpec.plain.varTypes Try.prog) (ds ++ gs)).all (· ≤ reachBytes) = true := hwt0
  clear hval0 hwt0
  have hW' := hW
  obtain ⟨p, q, hA0, hV, rfl, hfz, hnd⟩ := hW
  have hA : DataW.TrodAll enc Try.prog W 0 (fun _ => true) true Try.f8.params.toList args.toList ds p := hA0
  rw [Try.params8] at hA hval
  obtain ⟨v0, v1, d0, d1, p0, p1, rfl, rfl, rfl, h0, h1⟩ := trodAll_two hA
  obtain ⟨rfl, rfl⟩ := trodVars_none hV
  have hw : ∀ n ∈ DataW.weightsEach Try.prog [24, 3] [d0, d1], n ≤ reachBytes := by
    intro n hn
    have := List.all_eq_true.1 hwt n hn
    exact of_decide_eq_true this
  simp only [DataW.weightsEach, List.mem_append] at hw
  obtain ⟨a0, r0, g0⟩ := arg_agg decFee h0 (hval 0 24 v0 rfl rfl) (by kernel_rfl)
  have k0 := g0 fun n hn => hw n (.inl hn)
  obtain ⟨a1, r1, g1⟩ := arg_one decInt h1 (hval 1 3 v1 rfl rfl) (no_agg_int undInt)
  have k1 := g1 fun n hn => hw n (.inr (.inl hn))
  exact law_call hW' Try.laidOut (by intro t ht; rw [Try.params8] at ht; simp at ht; rcases ht with rfl | rfl <;> exact ⟨by kernel_rfl, of_decide_eq_true (by kernel_rfl)⟩) 4 (by kernel_rfl) undBool rfl rfl
    [_, _] rfl (fun j c hj => match j, hj with
      | 0, hj => by simp at hj; subst hj; exact ⟨v0, rfl, r0⟩
      | 1, hj => by simp at hj; subst hj; exact ⟨v1, rfl, r1⟩
      | j + 2, hj => by simp at hj) (ret_law_free a0 a1 k0)

theorem free_holds : Rows.FeesFreeSaid :=
  OpenClaim.holds_of_wide 8 Try.f8 rfl rfl rfl rfl rfl rfl rfl ⟨rfl, rfl, rfl, rfl, rfl⟩ rfl rfl rfl rfl rfl (by kernel_rfl) Try.func8 (by kernel_rfl)
    (of_decide_eq_true (by kernel_rfl)) (by unfold Func.isWrapper; first | (rw [if_pos (by decide +kernel)]; kernel_rfl) | (rw [if_neg (by decide +kernel)]; exact ⟨rfl, rfl⟩))
    (fun os started H enc _ => free_lifted os started H enc)
#print axioms free_holds
end Go.Proofs.Ythpjlkpkhlkhbaa
