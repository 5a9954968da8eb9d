/-
  Texts that belong together, one behind the other; what each of them proves, and under which conditions, its own heading says.
-/
import Derived.Test.YthpjlkpkhlkhbaaRows
import Derived.Test.YthpjlkpkhlkhbaaKe
/-
  Walks at the data level, printed by gen.py: what each Go function returns, for data that reads as said. Conditions: those of each theorem.
-/
namespace Go.Proofs.Ythpjlkpkhlkhbaa
open Go.DL
set_option maxRecDepth 100000
set_option linter.unusedVariables false
set_option linter.unusedSimpArgs false
theorem ret_pays (f : Fee) (s : Int) (ht : f.t.length ≤ 140737488355328) : Ret Try.prog 19 [(.agg [(I f.a), (I f.p), (I f.m), (I f.s), (.sl 2 (f.t.map encTrain))]), (I s)] (.tup [(.sl 2 ((pays f s).map encPay)), (I (paysE f s))]) := by
  have hc := chk_cases f
  have hsl := shares_len f
  have hpb := profit_bounds (f := f)
  have hpe := profit_err (f := f)
  refine Ret.of_T Try.func19 (by kernel_rfl) rfl ?_
  refine T_turn [] [0, 1] [] (mk 74 [(0, (.agg [(.dat (I f.a)), (.dat (I f.p)), (.dat (I f.m)), (.dat (I f.s)), (.dat (.sl 2 (f.t.map encTrain)))])), (1, (dt (I s)))] []) (by kernel_rfl) ?_
  refine T_reg [] [1, 2, 4] [] (mk 74 [(1, (dt (I s))), (2, (.one (.ref 2 0))), (4, (dt nilS))] [(2, (.var [(.dat (I f.a)), (.dat (I f.p)), (.dat (I f.m)), (.dat (I f.s)), (.dat (.sl 2 (f.t.map encTrain)))]))]) (True ∧ True ∧ True ∧ True ∧ True ∧ True ∧ True) (by kernel_rfl) ⟨trivial, trivial, trivial, trivial, trivial, trivial, trivial⟩ ?_
  refine T_reg [{}, { d := some (.tup [(.sl 2 ((shares f).map encPay)), (I (chk f))]) }] [1, 2, 4, 5, 6] [] (mk 74 [(1, (dt (I s))), (2, (.one (.ref 2 0))), (4, (dt nilS)), (5, (dt (I (chk f)))), (6, (dt (.sl 2 ((shares f).map encPay))))] [(2, (.var [(.dat (I f.a)), (.dat (I f.p)), (.dat (I f.m)), (.dat (I f.s)), (.dat (.sl 2 (f.t.map encTrain)))]))]) (True ∧ True ∧ True ∧ (Ret Try.prog 12 [(.agg [(I f.a), (I f.p), (I f.m), (I f.s), (.sl 2 (f.t.map encTrain))])] (.tup [(.sl 2 ((shares f).map encPay)), (I (chk f))])) ∧ True ∧ True ∧ True ∧ True ∧ True ∧ True ∧ True ∧ True ∧ True ∧ True ∧ True) (by kernel_rfl) ⟨trivial, trivial, trivial, (ret_shares f ht), trivial, trivial, trivial, trivial, trivial, trivial, trivial, trivial, trivial, trivial, trivial⟩ ?_
  refine T_seq ?_
  refine T_reg [] [1, 2, 4, 5, 6, 19] [] (mk 74 [(1, (dt (I s))), (2, (.one (.ref 2 0))), (4, (dt nilS)), (5, (dt (I (chk f)))), (6, (dt (.sl 2 ((shares f).map encPay)))), (19, (dt (B ((chk f) != 0))))] [(2, (.var [(.dat (I f.a)), (.dat (I f.p)), (.dat (I f.m)), (.dat (I f.s)), (.dat (.sl 2 (f.t.map encTrain)))]))]) (True ∧ True ∧ True ∧ True ∧ True) (by kernel_rfl) ⟨trivial, trivial, trivial, trivial, trivial⟩ ?_
  refine T_cond ((chk f) != 0) (by kernel_rfl) (fun h1 => ?_) (fun h1 => ?_)
  · skip
    have g2 : (chk f) ≠ 0 := bne_iff_ne.1 (h1)
    refine T_reg [] [4, 5] [2] (mk 74 [(4, (dt nilS)), (5, (dt (I (chk f))))] []) (True ∧ True ∧ True ∧ True ∧ True ∧ True ∧ True) (by kernel_rfl) ⟨trivial, trivial, trivial, trivial, trivial, trivial, trivial⟩ ?_
    refine T_ret ?_
    exact ret_here [(dt nilS), (dt (I (chk f)))] (by kernel_rfl) ⟨(.inr ⟨rfl, 2, (by show D.sl _ _ = _; exact congrArg (fun l => D.sl 2 (l.map encPay)) (by first | (rw [pays, if_pos (by omega)]; done) | (rw [pays, if_neg (by omega), if_pos (by omega)]; done) | (rw [paysE, if_pos (by omega)]; done) | (rw [paysE, if_pos (by omega)]; omega; done) | (rw [paysE, if_neg (by omega), if_pos (by omega)]; done) | (rw [paysE, if_neg (by omega), if_neg (by omega)]; done) | (exact keys_end (by omega) (by omega) hmp io (by omega); done) : (pays f s) = []))⟩), (.inl (congrArg I (by first | (rw [pays, if_pos (by omega)]; done) | (rw [pays, if_neg (by omega), if_pos (by omega)]; done) | (rw [paysE, if_pos (by omega)]; done) | (rw [paysE, if_pos (by omega)]; omega; done) | (rw [paysE, if_neg (by omega), if_pos (by omega)]; done) | (rw [paysE, if_neg (by omega), if_neg (by omega)]; done) | (exact keys_end (by omega) (by omega) hmp io (by omega); done) : (chk f) = (paysE f s)))), trivial⟩
  · skip
    have g3 : (chk f) = 0 := bne_f (h1)
    refine T_skip ?_
    refine T_seq ?_
    refine T_reg [{}, { d := some (B (decide (0 ≤ s ∧ s < 192))) }] [1, 2, 4, 6, 23] [] (mk 74 [(1, (dt (I s))), (2, (.one (.ref 2 0))), (4, (dt nilS)), (6, (dt (.sl 2 ((shares f).map encPay)))), (23, (dt (B (!(decide (0 ≤ s ∧ s < 192))))))] [(2, (.var [(.dat (I f.a)), (.dat (I f.p)), (.dat (I f.m)), (.dat (I f.s)), (.dat (.sl 2 (f.t.map encTrain)))]))]) (True ∧ True ∧ True ∧ (Ret Try.prog 30 [(I s)] (B (decide (0 ≤ s ∧ s < 192)))) ∧ True ∧ True ∧ True) (by kernel_rfl) ⟨trivial, trivial, trivial, (ret_isClub _), trivial, trivial, trivial⟩ ?_
    refine T_cond (!(decide (0 ≤ s ∧ s < 192))) (by kernel_rfl) (fun h4 => ?_) (fun h4 => ?_)
    · skip
      have n5 : (decide (0 ≤ s ∧ s < 192)) = false := not_t h4
      have g6 : ¬ (0 ≤ s ∧ s < 192) := of_decide_eq_false (n5)
      refine T_reg [] [4, 5] [2] (mk 74 [(4, (dt nilS)), (5, (dt (I 1)))] []) (True ∧ True ∧ True ∧ True ∧ True) (by kernel_rfl) ⟨trivial, trivial, trivial, trivial, trivial⟩ ?_
      refine T_ret ?_
      exact ret_here [(dt nilS), (dt (I 1))] (by kernel_rfl) ⟨(.inr ⟨rfl, 2, (by show D.sl _ _ = _; exact congrArg (fun l => D.sl 2 (l.map encPay)) (by first | (rw [pays, if_pos (by omega)]; done) | (rw [pays, if_neg (by omega), if_pos (by omega)]; done) | (rw [paysE, if_pos (by omega)]; done) | (rw [paysE, if_pos (by omega)]; omega; done) | (rw [paysE, if_neg (by omega), if_pos (by omega)]; done) | (rw [paysE, if_neg (by omega), if_neg (by omega)]; done) | (exact keys_end (by omega) (by omega) hmp io (by omega); done) : (pays f s) = []))⟩), (.inl (congrArg I (by first | (rw [pays, if_pos (by omega)]; done) | (rw [pays, if_neg (by omega), if_pos (by omega)]; done) | (rw [paysE, if_pos (by omega)]; done) | (rw [paysE, if_pos (by omega)]; omega; done) | (rw [paysE, if_neg (by omega), if_pos (by omega)]; done) | (rw [paysE, if_neg (by omega), if_neg (by omega)]; done) | (exact keys_end (by omega) (by omega) hmp io (by omega); done) : 1 = (paysE f s)))), trivial⟩
    · skip
      have n7 : (decide (0 ≤ s ∧ s < 192)) = true := not_f h4
      have g8 : (0 ≤ s ∧ s < 192) := of_decide_eq_true (n7)
      refine T_skip ?_
      refine T_reg [{}, { d := some (.tup [(I (profit f).1), (I (profit f).2)]) }] [1, 2, 4, 5, 6, 7] [] (mk 74 [(1, (dt (I s))), (2, (.one (.ref 2 0))), (4, (dt nilS)), (5, (dt (I (profit f).2))), (6, (dt (.sl 2 ((shares f).map encPay)))), (7, (dt (I (profit f).1)))] [(2, (.var [(.dat (I f.a)), (.dat (I f.p)), (.dat (I f.m)), (.dat (I f.s)), (.dat (.sl 2 (f.t.map encTrain)))]))]) (True ∧ True ∧ True ∧ (Ret Try.prog 14 [(.agg [(I f.a), (I f.p), (I f.m), (I f.s), (.sl 2 (f.t.map encTrain))])] (.tup [(I (profit f).1), (I (profit f).2)])) ∧ True ∧ True ∧ True ∧ True ∧ True ∧ True ∧ True ∧ True ∧ True ∧ True ∧ True) (by kernel_rfl) ⟨trivial, trivial, trivial, (ret_profit f ht), trivial, trivial, trivial, trivial, trivial, trivial, trivial, trivial, trivial, trivial, trivial⟩ ?_
      refine T_seq ?_
      refine T_reg [] [1, 2, 4, 5, 6, 7, 30] [] (mk 74 [(1, (dt (I s))), (2, (.one (.ref 2 0))), (4, (dt nilS)), (5, (dt (I (profit f).2))), (6, (dt (.sl 2 ((shares f).map encPay)))), (7, (dt (I (profit f).1))), (30, (dt (B ((profit f).2 != 0))))] [(2, (.var [(.dat (I f.a)), (.dat (I f.p)), (.dat (I f.m)), (.dat (I f.s)), (.dat (.sl 2 (f.t.map encTrain)))]))]) (True ∧ True ∧ True ∧ True ∧ True) (by kernel_rfl) ⟨trivial, trivial, trivial, trivial, trivial⟩ ?_
      refine T_cond ((profit f).2 != 0) (by kernel_rfl) (fun h9 => ?_) (fun h9 => ?_)
      · skip
        have g10 : (profit f).2 ≠ 0 := bne_iff_ne.1 (h9)
        refine T_reg [] [4, 5] [2] (mk 74 [(4, (dt nilS)), (5, (dt (I (profit f).2)))] []) (True ∧ True ∧ True ∧ True ∧ True ∧ True ∧ True) (by kernel_rfl) ⟨trivial, trivial, trivial, trivial, trivial, trivial, trivial⟩ ?_
        refine T_ret ?_
        exact ret_here [(dt nilS), (dt (I (profit f).2))] (by kernel_rfl) ⟨(.inr ⟨rfl, 2, (by show D.sl _ _ = _; exact congrArg (fun l => D.sl 2 (l.map encPay)) (by first | (rw [pays, if_pos (by omega)]; done) | (rw [pays, if_neg (by omega), if_pos (by omega)]; done) | (rw [paysE, if_pos (by omega)]; done) | (rw [paysE, if_pos (by omega)]; omega; done) | (rw [paysE, if_neg (by omega), if_pos (by omega)]; done) | (rw [paysE, if_neg (by omega), if_neg (by omega)]; done) | (exact keys_end (by omega) (by omega) hmp io (by omega); done) : (pays f s) = []))⟩), (.inl (congrArg I (by first | (rw [pays, if_pos (by omega)]; done) | (rw [pays, if_neg (by omega), if_pos (by omega)]; done) | (rw [paysE, if_pos (by omega)]; done) | (rw [paysE, if_pos (by omega)]; omega; done) | (rw [paysE, if_neg (by omega), if_pos (by omega)]; done) | (rw [paysE, if_neg (by omega), if_neg (by omega)]; done) | (exact keys_end (by omega) (by omega) hmp io (by omega); done) : (profit f).2 = (paysE f s)))), trivial⟩
      · skip
        have g11 : (profit f).2 = 0 := bne_f (h9)
        refine T_skip ?_
        have hfb := solid_bounds f (by omega)
        refine T_seq (T_parts ?_)
        refine TL_makeMap 51 3 3 32 32 rfl rfl rfl (by kernel_rfl) (by decide) ?_
        refine TL_turn [] [1, 2, 4, 6, 7, 8, 32] [] (mk 74 [(1, (dt (I s))), (2, (.one (.ref 2 0))), (4, (dt nilS)), (6, (dt (.sl 2 ((shares f).map encPay)))), (7, (dt (I (profit f).1))), (32, (.one (.own 32)))] [(32, (.map Try.prog 3 3 (mapD []))), (2, (.var [(.dat (I f.a)), (.dat (I f.p)), (.dat (I f.m)), (.dat (I f.s)), (.dat (.sl 2 (f.t.map encTrain)))]))]) (by kernel_rfl) ?_
        refine TL_part 2 [] (mk 74 [(1, (dt (I s))), (2, (.one (.ref 2 0))), (4, (dt nilS)), (6, (dt (.sl 2 ((shares f).map encPay)))), (7, (dt (I (profit f).1))), (8, (.one (.ref 8 0))), (32, (.one (.own 32)))] [(8, (.var [(.own 32)])), (32, (.map Try.prog 3 3 (mapD []))), (2, (.var [(.dat (I f.a)), (.dat (I f.p)), (.dat (I f.m)), (.dat (I f.s)), (.dat (.sl 2 (f.t.map encTrain)))]))]) (True ∧ True ∧ True ∧ True ∧ True) (by kernel_rfl) ⟨trivial, trivial, trivial, trivial, trivial⟩ rfl ?_
        refine TL_nilQ ?_
        refine T_turn [] [1, 2, 4, 6, 7, 8] [] (mk 74 [(1, (dt (I s))), (2, (.one (.ref 2 0))), (4, (dt nilS)), (6, (dt (.sl 2 ((shares f).map encPay)))), (7, (dt (I (profit f).1))), (8, (.one (.ref 8 0)))] [(8, (.var [(.own 32)])), (32, (.map Try.prog 3 3 (mapD []))), (2, (.var [(.dat (I f.a)), (.dat (I f.p)), (.dat (I f.m)), (.dat (I f.s)), (.dat (.sl 2 (f.t.map encTrain)))]))]) (by kernel_rfl) ?_
        refine T_reg [] [1, 2, 4, 6, 7, 8, 9] [] (mk 74 [(1, (dt (I s))), (2, (.one (.ref 2 0))), (4, (dt nilS)), (6, (dt (.sl 2 ((shares f).map encPay)))), (7, (dt (I (profit f).1))), (8, (.one (.ref 8 0))), (9, (.one (.ref 9 0)))] [(9, (.var [(.dat (I f.a))])), (8, (.var [(.own 32)])), (32, (.map Try.prog 3 3 (mapD []))), (2, (.var [(.dat (I f.a)), (.dat (I f.p)), (.dat (I f.m)), (.dat (I f.s)), (.dat (.sl 2 (f.t.map encTrain)))]))]) (True ∧ True ∧ True ∧ True ∧ True ∧ True ∧ True ∧ True ∧ True) (by kernel_rfl) ⟨trivial, trivial, trivial, trivial, trivial, trivial, trivial, trivial, trivial⟩ ?_
        refine T_reg [] [1, 2, 4, 6, 7, 8, 9, 10] [] (mk 74 [(1, (dt (I s))), (2, (.one (.ref 2 0))), (4, (dt nilS)), (6, (dt (.sl 2 ((shares f).map encPay)))), (7, (dt (I (profit f).1))), (8, (.one (.ref 8 0))), (9, (.one (.ref 9 0))), (10, (.one (.fn 32 [.inl 8, .inl 9])))] [(9, (.var [(.dat (I f.a))])), (8, (.var [(.own 32)])), (32, (.map Try.prog 3 3 (mapD []))), (2, (.var [(.dat (I f.a)), (.dat (I f.p)), (.dat (I f.m)), (.dat (I f.s)), (.dat (.sl 2 (f.t.map encTrain)))]))]) (True ∧ True ∧ True ∧ True ∧ True) (by kernel_rfl) ⟨trivial, trivial, trivial, trivial, trivial⟩ ?_
        refine T_seq (T_parts ?_)
        refine TL_part 2 [] (mk 74 [(1, (dt (I s))), (2, (.one (.ref 2 0))), (4, (dt nilS)), (6, (dt (.sl 2 ((shares f).map encPay)))), (7, (dt (I (profit f).1))), (8, (.one (.ref 8 0))), (9, (.one (.ref 9 0))), (10, (.one (.fn 32 [.inl 8, .inl 9]))), (36, (.one (.fn 32 [.inl 8, .inl 9]))), (37, (dt (.sl 2 ((shares f).map encPay))))] [(9, (.var [(.dat (I f.a))])), (8, (.var [(.own 32)])), (32, (.map Try.prog 3 3 (mapD []))), (2, (.var [(.dat (I f.a)), (.dat (I f.p)), (.dat (I f.m)), (.dat (I f.s)), (.dat (.sl 2 (f.t.map encTrain)))]))]) (True ∧ True ∧ True ∧ True ∧ True) (by kernel_rfl) ⟨trivial, trivial, trivial, trivial, trivial⟩ rfl ?_
        refine TL_inline 74 32 [.inl 8, .inl 9] Try.f32 _ rfl rfl (by kernel_rfl) Try.func32 rfl rfl (by decide) ?_
        refine T_turn [] [0, 1, 2] [] (mk 24 [(0, (dt (.sl 2 ((shares f).map encPay)))), (1, (.one (.ref 8 0))), (2, (.one (.ref 9 0)))] [(9, (.var [(.dat (I f.a))])), (8, (.var [(.own 32)])), (32, (.map Try.prog 3 3 (mapD []))), (2, (.var [(.dat (I f.a)), (.dat (I f.p)), (.dat (I f.m)), (.dat (I f.s)), (.dat (.sl 2 (f.t.map encTrain)))]))]) (by kernel_rfl) ?_
        refine T_reg [{}, { d := some (I (((shares f).length : Nat) : Int)) }] [1, 2, 6, 7, 8] [] (mk 24 [(1, (.one (.ref 8 0))), (2, (.one (.ref 9 0))), (6, (dt (.sl 2 ((shares f).map encPay)))), (7, (dt (I (((shares f).length : Nat) : Int)))), (8, (dt (I 0)))] [(9, (.var [(.dat (I f.a))])), (8, (.var [(.own 32)])), (32, (.map Try.prog 3 3 (mapD []))), (2, (.var [(.dat (I f.a)), (.dat (I f.p)), (.dat (I f.m)), (.dat (I f.s)), (.dat (.sl 2 (f.t.map encTrain)))]))]) (True ∧ True ∧ True ∧ (True ∧ D.int .i64 (((shares f).map encPay).length : Int) = (I (((shares f).length : Nat) : Int))) ∧ True ∧ True ∧ True) (by kernel_rfl) ⟨trivial, trivial, trivial, ⟨trivial, by rw [List.length_map]⟩, trivial, trivial, trivial⟩ ?_
        refine T_block ?_
        have hS1 : SmallL ((([] : List Pay)) ++ (shares f)) 42 56294995342131250 := small_pre (L' := [(⟨f.m, (profit f).1⟩ : Pay)]) (small_LL f)
        have hK1 : ∀ p ∈ (shares f), -1 ≤ p.c ∧ p.c < 192 := fun p hp => by have := shares_mem hp; omega
        have hT1 := small_one hS1
        have hLl1 := hT1.1
        refine T_turn [] [1, 2, 6, 7, 8] [] ((fun ((k1, m1, r1) : Nat × List (Int × Int) × Int) => (mk 24 [(1, (.one (.ref 8 0))), (2, (.one (.ref 9 0))), (6, (dt (.sl 2 ((shares f).map encPay)))), (7, (dt (I (((shares f).length : Nat) : Int)))), (8, (dt (I ((k1 : Nat) : Int))))] [(9, (.var [(.dat (I r1))])), (8, (.var [(.own 32)])), (32, (.map Try.prog 3 3 (mapD m1))), (2, (.var [(.dat (I f.a)), (.dat (I f.p)), (.dat (I f.m)), (.dat (I f.s)), (.dat (.sl 2 (f.t.map encTrain)))]))])) (0, ([] : List (Int × Int)), f.a)) (by kernel_rfl) (T_loop (α := Nat × List (Int × Int) × Int) (fun ((k1, m1, r1) : Nat × List (Int × Int) × Int) => (mk 24 [(1, (.one (.ref 8 0))), (2, (.one (.ref 9 0))), (6, (dt (.sl 2 ((shares f).map encPay)))), (7, (dt (I (((shares f).length : Nat) : Int)))), (8, (dt (I ((k1 : Nat) : Int))))] [(9, (.var [(.dat (I r1))])), (8, (.var [(.own 32)])), (32, (.map Try.prog 3 3 (mapD m1))), (2, (.var [(.dat (I f.a)), (.dat (I f.p)), (.dat (I f.m)), (.dat (I f.s)), (.dat (.sl 2 (f.t.map encTrain)))]))])) (fun ((k1, m1, r1) : Nat × List (Int × Int) × Int) => (k1 ≤ (shares f).length) ∧ (MP m1 (([] : List Pay) ++ (shares f).take k1)) ∧ (r1 = f.a - sumA ((shares f).take k1)) ∧ True) (fun ((k1, m1, r1) : Nat × List (Int × Int) × Int) => (shares f).length - k1) (0, ([] : List (Int × Int)), f.a) ⟨Nat.zero_le _, by simpa using MP_nil, by simp [sumA], trivial⟩ ?_)
        rintro ⟨k1, m1, r1⟩ ⟨ik1, im1, ir1, _⟩
        have hsb1 := MP_bounds im1 (by decide) (small_take hS1 k1)
        have hml1 := im1.len
        have hml1b := (small_take hS1 k1).1
        have hrb1 := small_sum (by decide) hT1 k1
        refine T_reg [] [1, 2, 6, 7, 8, 9] [] (mk 24 [(1, (.one (.ref 8 0))), (2, (.one (.ref 9 0))), (6, (dt (.sl 2 ((shares f).map encPay)))), (7, (dt (I (((shares f).length : Nat) : Int)))), (8, (dt (I ((k1 : Nat) : Int)))), (9, (dt (B (decide (((k1 : Nat) : Int) < (((shares f).length : Nat) : Int))))))] [(9, (.var [(.dat (I r1))])), (8, (.var [(.own 32)])), (32, (.map Try.prog 3 3 (mapD m1))), (2, (.var [(.dat (I f.a)), (.dat (I f.p)), (.dat (I f.m)), (.dat (I f.s)), (.dat (.sl 2 (f.t.map encTrain)))]))]) (True ∧ True ∧ True) (by kernel_rfl) ⟨trivial, trivial, trivial⟩ ?_
        refine T_seq ?_
        refine T_cond (decide (((k1 : Nat) : Int) < (((shares f).length : Nat) : Int))) (by kernel_rfl) (fun h12 => ?_) (fun h12 => ?_)
        · skip
          have g13 : ((k1 : Nat) : Int) < (((shares f).length : Nat) : Int) := of_decide_eq_true (h12)
          refine T_skip ?_
          refine T_seq ?_
          refine T_block ?_
          have lt14 : k1 < ((shares f)).length := by first | omega | (simp only [List.length_set, List.length_map, List.length_append, List.length_cons, List.length_nil] at *; omega)
          obtain ⟨x15, hx16⟩ : ∃ x, ((shares f))[k1]? = some x := ⟨_, List.getElem?_eq_getElem lt14⟩
          have hxe1 := hT1.2 _ (List.mem_of_getElem? hx16)
          have hxk1 := hK1 _ (List.mem_of_getElem? hx16)
          have hxm1 := hsb1 x15.c
          refine T_reg [{ d := some (.agg [(I x15.c), (I x15.a)]) }] [1, 2, 5, 6, 7, 8] [] (mk 24 [(1, (.one (.ref 8 0))), (2, (.one (.ref 9 0))), (5, (.one (.ref 79 0))), (6, (dt (.sl 2 ((shares f).map encPay)))), (7, (dt (I (((shares f).length : Nat) : Int)))), (8, (dt (I ((k1 : Nat) : Int))))] [(79, (.var [(.dat (I x15.c)), (.dat (I x15.a))])), (9, (.var [(.dat (I r1))])), (8, (.var [(.own 32)])), (32, (.map Try.prog 3 3 (mapD m1))), (2, (.var [(.dat (I f.a)), (.dat (I f.p)), (.dat (I f.m)), (.dat (I f.s)), (.dat (.sl 2 (f.t.map encTrain)))]))]) (True ∧ (0 ≤ ((k1 : Nat) : Int) ∧ ((shares f).map encPay)[k1]? = some (.agg [(I x15.c), (I x15.a)])) ∧ True ∧ True ∧ True ∧ True ∧ True ∧ True ∧ True) (by kernel_rfl) ⟨trivial, ⟨by omega, by rw [List.getElem?_map, hx16]; rfl⟩, trivial, trivial, trivial, trivial, trivial, trivial, trivial⟩ ?_
          refine T_seq (T_parts ?_)
          refine TL_part 3 [] (mk 24 [(1, (.one (.ref 8 0))), (2, (.one (.ref 9 0))), (5, (.one (.ref 79 0))), (6, (dt (.sl 2 ((shares f).map encPay)))), (7, (dt (I (((shares f).length : Nat) : Int)))), (8, (dt (I ((k1 : Nat) : Int)))), (12, (.one (.own 32))), (13, (.one (.ref 79 0))), (14, (dt (I x15.c)))] [(79, (.var [(.dat (I x15.c)), (.dat (I x15.a))])), (9, (.var [(.dat (I r1))])), (8, (.var [(.own 32)])), (32, (.map Try.prog 3 3 (mapD m1))), (2, (.var [(.dat (I f.a)), (.dat (I f.p)), (.dat (I f.m)), (.dat (I f.s)), (.dat (.sl 2 (f.t.map encTrain)))]))]) (True ∧ True ∧ True ∧ True ∧ True ∧ True ∧ True) (by kernel_rfl) ⟨trivial, trivial, trivial, trivial, trivial, trivial, trivial⟩ rfl ?_
          refine TL_lookup 51 3 3 32 _ _ m1 x15.c rfl rfl (by kernel_rfl) (by kernel_rfl) (by kernel_rfl) (by kernel_rfl) (by kernel_rfl) (by kernel_rfl) (by kernel_rfl) ⟨by omega, by omega⟩ ?_
          refine TL_turn [] [1, 2, 5, 6, 7, 8, 12, 14, 15, 16, 17, 18] [] (mk 24 [(1, (.one (.ref 8 0))), (2, (.one (.ref 9 0))), (5, (.one (.ref 79 0))), (6, (dt (.sl 2 ((shares f).map encPay)))), (7, (dt (I (((shares f).length : Nat) : Int)))), (8, (dt (I ((k1 : Nat) : Int)))), (12, (.one (.own 32))), (14, (dt (I x15.c))), (15, (dt (I (mget m1 x15.c))))] [(79, (.var [(.dat (I x15.c)), (.dat (I x15.a))])), (9, (.var [(.dat (I r1))])), (8, (.var [(.own 32)])), (32, (.map Try.prog 3 3 (mapD m1))), (2, (.var [(.dat (I f.a)), (.dat (I f.p)), (.dat (I f.m)), (.dat (I f.s)), (.dat (.sl 2 (f.t.map encTrain)))]))]) (by kernel_rfl) ?_
          refine TL_part 3 [{}, {}, { d := some (I ((mget m1 x15.c) + x15.a)) }] (mk 24 [(1, (.one (.ref 8 0))), (2, (.one (.ref 9 0))), (5, (.one (.ref 79 0))), (6, (dt (.sl 2 ((shares f).map encPay)))), (7, (dt (I (((shares f).length : Nat) : Int)))), (8, (dt (I ((k1 : Nat) : Int)))), (12, (.one (.own 32))), (14, (dt (I x15.c))), (15, (dt (I (mget m1 x15.c)))), (16, (.one (.ref 79 1))), (17, (dt (I x15.a))), (18, (dt (I ((mget m1 x15.c) + x15.a))))] [(79, (.var [(.dat (I x15.c)), (.dat (I x15.a))])), (9, (.var [(.dat (I r1))])), (8, (.var [(.own 32)])), (32, (.map Try.prog 3 3 (mapD m1))), (2, (.var [(.dat (I f.a)), (.dat (I f.p)), (.dat (I f.m)), (.dat (I f.s)), (.dat (.sl 2 (f.t.map encTrain)))]))]) (True ∧ True ∧ True ∧ True ∧ True ∧ (IntKind.i64.wrap ((mget m1 x15.c) + x15.a) = ((mget m1 x15.c) + x15.a)) ∧ True) (by kernel_rfl) ⟨trivial, trivial, trivial, trivial, trivial, (i64_wrap (by omega) (by omega)), trivial⟩ rfl ?_
          refine TL_mapUpdate 51 3 3 32 _ _ _ m1 x15.c ((mget m1 x15.c) + x15.a) rfl rfl (by kernel_rfl) (by kernel_rfl) (by kernel_rfl) (by kernel_rfl) (by kernel_rfl) (by kernel_rfl) (by kernel_rfl) ⟨by omega, by omega⟩ ⟨by omega, by omega⟩ (by simp only [maxLen]; omega) ?_
          refine TL_turn [] [1, 2, 5, 6, 7, 8] [] (mk 24 [(1, (.one (.ref 8 0))), (2, (.one (.ref 9 0))), (5, (.one (.ref 79 0))), (6, (dt (.sl 2 ((shares f).map encPay)))), (7, (dt (I (((shares f).length : Nat) : Int)))), (8, (dt (I ((k1 : Nat) : Int))))] [(79, (.var [(.dat (I x15.c)), (.dat (I x15.a))])), (9, (.var [(.dat (I r1))])), (8, (.var [(.own 32)])), (32, (.map Try.prog 3 3 (mapD (mput m1 x15.c ((mget m1 x15.c) + x15.a))))), (2, (.var [(.dat (I f.a)), (.dat (I f.p)), (.dat (I f.m)), (.dat (I f.s)), (.dat (.sl 2 (f.t.map encTrain)))]))]) (by kernel_rfl) ?_
          refine TL_nilQ ?_
          refine T_turn [] [1, 2, 5, 6, 7, 8] [] (mk 24 [(1, (.one (.ref 8 0))), (2, (.one (.ref 9 0))), (5, (.one (.ref 79 0))), (6, (dt (.sl 2 ((shares f).map encPay)))), (7, (dt (I (((shares f).length : Nat) : Int)))), (8, (dt (I ((k1 : Nat) : Int))))] [(79, (.var [(.dat (I x15.c)), (.dat (I x15.a))])), (9, (.var [(.dat (I r1))])), (8, (.var [(.own 32)])), (32, (.map Try.prog 3 3 (mapD (mput m1 x15.c ((mget m1 x15.c) + x15.a))))), (2, (.var [(.dat (I f.a)), (.dat (I f.p)), (.dat (I f.m)), (.dat (I f.s)), (.dat (.sl 2 (f.t.map encTrain)))]))]) (by kernel_rfl) ?_
          refine T_regE [{}, {}, {}, { d := some (I (r1 - x15.a)) }] (mk 24 [(1, (.one (.ref 8 0))), (2, (.one (.ref 9 0))), (5, (.one (.ref 79 0))), (6, (dt (.sl 2 ((shares f).map encPay)))), (7, (dt (I (((shares f).length : Nat) : Int)))), (8, (dt (I ((k1 : Nat) : Int)))), (19, (dt (I r1))), (20, (.one (.ref 79 1))), (21, (dt (I x15.a))), (22, (dt (I (r1 - x15.a))))] [(79, (.var [(.dat (I x15.c)), (.dat (I x15.a))])), (9, (.var [(.dat (I (r1 - x15.a)))])), (8, (.var [(.own 32)])), (32, (.map Try.prog 3 3 (mapD (mput m1 x15.c ((mget m1 x15.c) + x15.a))))), (2, (.var [(.dat (I f.a)), (.dat (I f.p)), (.dat (I f.m)), (.dat (I f.s)), (.dat (.sl 2 (f.t.map encTrain)))]))]) (True ∧ True ∧ True ∧ True ∧ True ∧ True ∧ True ∧ (IntKind.i64.wrap (r1 - x15.a) = (r1 - x15.a)) ∧ True ∧ True ∧ True) (by kernel_rfl) ⟨trivial, trivial, trivial, trivial, trivial, trivial, trivial, (i64_wrap (by omega) (by omega)), trivial, trivial, trivial⟩ ?_
          refine T_regE [{ d := some (I ((k1 + 1 : Nat) : Int)) }] (mk 24 [(1, (.one (.ref 8 0))), (2, (.one (.ref 9 0))), (5, (.one (.ref 79 0))), (6, (dt (.sl 2 ((shares f).map encPay)))), (7, (dt (I (((shares f).length : Nat) : Int)))), (8, (dt (I ((k1 + 1 : Nat) : Int)))), (19, (dt (I r1))), (20, (.one (.ref 79 1))), (21, (dt (I x15.a))), (22, (dt (I (r1 - x15.a)))), (23, (dt (I ((k1 + 1 : Nat) : Int))))] [(79, (.var [(.dat (I x15.c)), (.dat (I x15.a))])), (9, (.var [(.dat (I (r1 - x15.a)))])), (8, (.var [(.own 32)])), (32, (.map Try.prog 3 3 (mapD (mput m1 x15.c ((mget m1 x15.c) + x15.a))))), (2, (.var [(.dat (I f.a)), (.dat (I f.p)), (.dat (I f.m)), (.dat (I f.s)), (.dat (.sl 2 (f.t.map encTrain)))]))]) (True ∧ (IntKind.i64.wrap (((k1 : Nat) : Int) + 1) = ((k1 + 1 : Nat) : Int)) ∧ True ∧ True ∧ True) (by kernel_rfl) ⟨trivial, (by rw [i64_wrap (by omega) (by omega)]; omega), trivial, trivial, trivial⟩ ?_
          refine Exists.intro (k1 + 1, (mput m1 x15.c ((mget m1 x15.c) + x15.a)), (r1 - x15.a)) ⟨⟨by omega, by exact MP_step im1 hx16, by rw [sumA_snoc hx16]; omega, trivial⟩, by first | omega | (dsimp only; omega), le_turn [] [1, 2, 6, 7, 8] [79] (by kernel_rfl)⟩
        · skip
          have g17 : ¬ (((k1 : Nat) : Int) < (((shares f).length : Nat) : Int)) := of_decide_eq_false (h12)
          refine T_exit ?_
          refine ⟨[], by kernel_rfl, ?_⟩
          refine TL_turn [] [1, 2, 4, 7, 8, 9, 10, 38] [] (mk 74 [(1, (dt (I s))), (2, (.one (.ref 2 0))), (4, (dt nilS)), (7, (dt (I (profit f).1))), (8, (.one (.ref 8 0))), (9, (.one (.ref 9 0))), (10, (.one (.fn 32 [.inl 8, .inl 9]))), (38, (.tup []))] [(9, (.var [(.dat (I r1))])), (8, (.var [(.own 32)])), (32, (.map Try.prog 3 3 (mapD m1))), (2, (.var [(.dat (I f.a)), (.dat (I f.p)), (.dat (I f.m)), (.dat (I f.s)), (.dat (.sl 2 (f.t.map encTrain)))]))]) (by kernel_rfl) ?_
          refine TL_nilQ ?_
          refine T_turn [] [1, 2, 4, 7, 8, 9, 10] [] (mk 74 [(1, (dt (I s))), (2, (.one (.ref 2 0))), (4, (dt nilS)), (7, (dt (I (profit f).1))), (8, (.one (.ref 8 0))), (9, (.one (.ref 9 0))), (10, (.one (.fn 32 [.inl 8, .inl 9])))] [(9, (.var [(.dat (I r1))])), (8, (.var [(.own 32)])), (32, (.map Try.prog 3 3 (mapD m1))), (2, (.var [(.dat (I f.a)), (.dat (I f.p)), (.dat (I f.m)), (.dat (I f.s)), (.dat (.sl 2 (f.t.map encTrain)))]))]) (by kernel_rfl) ?_
          refine T_seq (T_parts ?_)
          refine TL_part 6 [] (mk 74 [(1, (dt (I s))), (2, (.one (.ref 2 0))), (4, (dt nilS)), (7, (dt (I (profit f).1))), (8, (.one (.ref 8 0))), (9, (.one (.ref 9 0))), (10, (.one (.fn 32 [.inl 8, .inl 9]))), (39, (.one (.fn 32 [.inl 8, .inl 9]))), (40, (.one (.ref 2 2))), (41, (dt (I f.m))), (42, (dt (I (profit f).1))), (43, (.agg [(.dat (I f.m)), (.dat (I (profit f).1))])), (44, (.one (.own 44)))] [(44, (.row 38 2 ([(⟨f.m, (profit f).1⟩ : Pay)].map encPay))), (9, (.var [(.dat (I r1))])), (8, (.var [(.own 32)])), (32, (.map Try.prog 3 3 (mapD m1))), (2, (.var [(.dat (I f.a)), (.dat (I f.p)), (.dat (I f.m)), (.dat (I f.s)), (.dat (.sl 2 (f.t.map encTrain)))]))]) (True ∧ True ∧ True ∧ True ∧ True ∧ True ∧ True ∧ True ∧ True ∧ True ∧ True ∧ (dfill (fun i => some (i * 2, 2)) (List.replicate (1 * 2) .junk) [(0, [(.dat (I f.m)), (.dat (I (profit f).1))])] = some ((flat ([(⟨f.m, (profit f).1⟩ : Pay)].map encPay)).map .dat)) ∧ True) (by kernel_rfl) ⟨trivial, trivial, trivial, trivial, trivial, trivial, trivial, trivial, trivial, trivial, trivial, rfl, trivial⟩ rfl ?_
          refine TL_inline 74 32 [.inl 8, .inl 9] Try.f32 _ rfl rfl (by kernel_rfl) Try.func32 rfl rfl (by decide) ?_
          refine T_turn [] [0, 1, 2] [] (mk 24 [(0, (.one (.own 44))), (1, (.one (.ref 8 0))), (2, (.one (.ref 9 0)))] [(44, (.row 38 2 ([(⟨f.m, (profit f).1⟩ : Pay)].map encPay))), (9, (.var [(.dat (I r1))])), (8, (.var [(.own 32)])), (32, (.map Try.prog 3 3 (mapD m1))), (2, (.var [(.dat (I f.a)), (.dat (I f.p)), (.dat (I f.m)), (.dat (I f.s)), (.dat (.sl 2 (f.t.map encTrain)))]))]) (by kernel_rfl) ?_
          refine T_reg [{}, { d := some (I (([(⟨f.m, (profit f).1⟩ : Pay)].length : Nat) : Int)) }] [1, 2, 6, 7, 8] [2] (mk 24 [(1, (.one (.ref 8 0))), (2, (.one (.ref 9 0))), (6, (.one (.own 44))), (7, (dt (I (([(⟨f.m, (profit f).1⟩ : Pay)].length : Nat) : Int)))), (8, (dt (I 0)))] [(44, (.row 38 2 ([(⟨f.m, (profit f).1⟩ : Pay)].map encPay))), (9, (.var [(.dat (I r1))])), (8, (.var [(.own 32)])), (32, (.map Try.prog 3 3 (mapD m1)))]) (True ∧ True ∧ True ∧ (True ∧ D.int .i64 (([(⟨f.m, (profit f).1⟩ : Pay)].map encPay).length : Int) = (I (([(⟨f.m, (profit f).1⟩ : Pay)].length : Nat) : Int))) ∧ True ∧ True ∧ True) (by kernel_rfl) ⟨trivial, trivial, trivial, ⟨trivial, by rw [List.length_map]⟩, trivial, trivial, trivial⟩ ?_
          refine T_block ?_
          have hS2 : SmallL (((([] : List Pay) ++ shares f)) ++ [(⟨f.m, (profit f).1⟩ : Pay)]) 42 56294995342131250 := small_LL f
          have hK2 : ∀ p ∈ [(⟨f.m, (profit f).1⟩ : Pay)], -1 ≤ p.c ∧ p.c < 192 := fun p hp => by (simp at hp; subst hp; dsimp only; rcases chk_cases f with h2 | ⟨_, hh, _⟩; omega; unfold headOK at hh; omega)
          have hT2 := small_one hS2
          have hLl2 := hT2.1
          refine T_turn [] [1, 2, 6, 7, 8] [] ((fun ((k2, m2, r2) : Nat × List (Int × Int) × Int) => (mk 24 [(1, (.one (.ref 8 0))), (2, (.one (.ref 9 0))), (6, (.one (.own 44))), (7, (dt (I (([(⟨f.m, (profit f).1⟩ : Pay)].length : Nat) : Int)))), (8, (dt (I ((k2 : Nat) : Int))))] [(44, (.row 38 2 ([(⟨f.m, (profit f).1⟩ : Pay)].map encPay))), (9, (.var [(.dat (I r2))])), (8, (.var [(.own 32)])), (32, (.map Try.prog 3 3 (mapD m2)))])) (0, m1, r1)) (by kernel_rfl) (T_loop (α := Nat × List (Int × Int) × Int) (fun ((k2, m2, r2) : Nat × List (Int × Int) × Int) => (mk 24 [(1, (.one (.ref 8 0))), (2, (.one (.ref 9 0))), (6, (.one (.own 44))), (7, (dt (I (([(⟨f.m, (profit f).1⟩ : Pay)].length : Nat) : Int)))), (8, (dt (I ((k2 : Nat) : Int))))] [(44, (.row 38 2 ([(⟨f.m, (profit f).1⟩ : Pay)].map encPay))), (9, (.var [(.dat (I r2))])), (8, (.var [(.own 32)])), (32, (.map Try.prog 3 3 (mapD m2)))])) (fun ((k2, m2, r2) : Nat × List (Int × Int) × Int) => (k2 ≤ [(⟨f.m, (profit f).1⟩ : Pay)].length) ∧ (MP m2 ((([] : List Pay) ++ shares f) ++ [(⟨f.m, (profit f).1⟩ : Pay)].take k2)) ∧ (r2 = r1 - sumA ([(⟨f.m, (profit f).1⟩ : Pay)].take k2)) ∧ True) (fun ((k2, m2, r2) : Nat × List (Int × Int) × Int) => [(⟨f.m, (profit f).1⟩ : Pay)].length - k2) (0, m1, r1) ⟨Nat.zero_le _, by rw [List.take_zero, List.append_nil]; exact MP_all im1 (by omega), by simp [sumA], trivial⟩ ?_)
          rintro ⟨k2, m2, r2⟩ ⟨ik2, im2, ir2, _⟩
          have hsb2 := MP_bounds im2 (by decide) (small_take hS2 k2)
          have hml2 := im2.len
          have hml2b := (small_take hS2 k2).1
          have hrb2 := small_sum (by decide) hT2 k2
          refine T_reg [] [1, 2, 6, 7, 8, 9] [] (mk 24 [(1, (.one (.ref 8 0))), (2, (.one (.ref 9 0))), (6, (.one (.own 44))), (7, (dt (I (([(⟨f.m, (profit f).1⟩ : Pay)].length : Nat) : Int)))), (8, (dt (I ((k2 : Nat) : Int)))), (9, (dt (B (decide (((k2 : Nat) : Int) < (([(⟨f.m, (profit f).1⟩ : Pay)].length : Nat) : Int))))))] [(44, (.row 38 2 ([(⟨f.m, (profit f).1⟩ : Pay)].map encPay))), (9, (.var [(.dat (I r2))])), (8, (.var [(.own 32)])), (32, (.map Try.prog 3 3 (mapD m2)))]) (True ∧ True ∧ True) (by kernel_rfl) ⟨trivial, trivial, trivial⟩ ?_
          refine T_seq ?_
          refine T_cond (decide (((k2 : Nat) : Int) < (([(⟨f.m, (profit f).1⟩ : Pay)].length : Nat) : Int))) (by kernel_rfl) (fun h18 => ?_) (fun h18 => ?_)
          · skip
            have g19 : ((k2 : Nat) : Int) < (([(⟨f.m, (profit f).1⟩ : Pay)].length : Nat) : Int) := of_decide_eq_true (h18)
            refine T_skip ?_
            refine T_seq ?_
            refine T_block ?_
            have lt20 : k2 < ([(⟨f.m, (profit f).1⟩ : Pay)]).length := by first | omega | (simp only [List.length_set, List.length_map, List.length_append, List.length_cons, List.length_nil] at *; omega)
            obtain ⟨x21, hx22⟩ : ∃ x, ([(⟨f.m, (profit f).1⟩ : Pay)])[k2]? = some x := ⟨_, List.getElem?_eq_getElem lt20⟩
            have hxe2 := hT2.2 _ (List.mem_of_getElem? hx22)
            have hxk2 := hK2 _ (List.mem_of_getElem? hx22)
            have hxm2 := hsb2 x21.c
            refine T_reg [{}, { d := some (.agg [(I x21.c), (I x21.a)]) }] [1, 2, 5, 6, 7, 8] [] (mk 24 [(1, (.one (.ref 8 0))), (2, (.one (.ref 9 0))), (5, (.one (.ref 79 0))), (6, (.one (.own 44))), (7, (dt (I (([(⟨f.m, (profit f).1⟩ : Pay)].length : Nat) : Int)))), (8, (dt (I ((k2 : Nat) : Int))))] [(79, (.var [(.dat (I x21.c)), (.dat (I x21.a))])), (44, (.row 38 2 ([(⟨f.m, (profit f).1⟩ : Pay)].map encPay))), (9, (.var [(.dat (I r2))])), (8, (.var [(.own 32)])), (32, (.map Try.prog 3 3 (mapD m2)))]) (True ∧ (0 ≤ ((k2 : Nat) : Int) ∧ ((k2 : Nat) : Int) < ((([(⟨f.m, (profit f).1⟩ : Pay)].map encPay).length : Nat) : Int)) ∧ True ∧ (([(⟨f.m, (profit f).1⟩ : Pay)].map encPay)[k2]? = some (.agg [(I x21.c), (I x21.a)])) ∧ True ∧ True ∧ True ∧ True ∧ True) (by kernel_rfl) ⟨trivial, ⟨by omega, by rw [List.length_map]; first | omega | (simp only [List.length_append, List.length_set, List.length_map, List.length_cons, List.length_nil] at *; omega)⟩, trivial, (by rw [List.getElem?_map, hx22]; rfl), trivial, trivial, trivial, trivial, trivial⟩ ?_
            refine T_seq (T_parts ?_)
            refine TL_part 3 [] (mk 24 [(1, (.one (.ref 8 0))), (2, (.one (.ref 9 0))), (5, (.one (.ref 79 0))), (6, (.one (.own 44))), (7, (dt (I (([(⟨f.m, (profit f).1⟩ : Pay)].length : Nat) : Int)))), (8, (dt (I ((k2 : Nat) : Int)))), (12, (.one (.own 32))), (13, (.one (.ref 79 0))), (14, (dt (I x21.c)))] [(79, (.var [(.dat (I x21.c)), (.dat (I x21.a))])), (44, (.row 38 2 ([(⟨f.m, (profit f).1⟩ : Pay)].map encPay))), (9, (.var [(.dat (I r2))])), (8, (.var [(.own 32)])), (32, (.map Try.prog 3 3 (mapD m2)))]) (True ∧ True ∧ True ∧ True ∧ True ∧ True ∧ True) (by kernel_rfl) ⟨trivial, trivial, trivial, trivial, trivial, trivial, trivial⟩ rfl ?_
            refine TL_lookup 51 3 3 32 _ _ m2 x21.c rfl rfl (by kernel_rfl) (by kernel_rfl) (by kernel_rfl) (by kernel_rfl) (by kernel_rfl) (by kernel_rfl) (by kernel_rfl) ⟨by omega, by omega⟩ ?_
            refine TL_turn [] [1, 2, 5, 6, 7, 8, 12, 14, 15, 16, 17, 18] [] (mk 24 [(1, (.one (.ref 8 0))), (2, (.one (.ref 9 0))), (5, (.one (.ref 79 0))), (6, (.one (.own 44))), (7, (dt (I (([(⟨f.m, (profit f).1⟩ : Pay)].length : Nat) : Int)))), (8, (dt (I ((k2 : Nat) : Int)))), (12, (.one (.own 32))), (14, (dt (I x21.c))), (15, (dt (I (mget m2 x21.c))))] [(79, (.var [(.dat (I x21.c)), (.dat (I x21.a))])), (44, (.row 38 2 ([(⟨f.m, (profit f).1⟩ : Pay)].map encPay))), (9, (.var [(.dat (I r2))])), (8, (.var [(.own 32)])), (32, (.map Try.prog 3 3 (mapD m2)))]) (by kernel_rfl) ?_
            refine TL_part 3 [{}, {}, { d := some (I ((mget m2 x21.c) + x21.a)) }] (mk 24 [(1, (.one (.ref 8 0))), (2, (.one (.ref 9 0))), (5, (.one (.ref 79 0))), (6, (.one (.own 44))), (7, (dt (I (([(⟨f.m, (profit f).1⟩ : Pay)].length : Nat) : Int)))), (8, (dt (I ((k2 : Nat) : Int)))), (12, (.one (.own 32))), (14, (dt (I x21.c))), (15, (dt (I (mget m2 x21.c)))), (16, (.one (.ref 79 1))), (17, (dt (I x21.a))), (18, (dt (I ((mget m2 x21.c) + x21.a))))] [(79, (.var [(.dat (I x21.c)), (.dat (I x21.a))])), (44, (.row 38 2 ([(⟨f.m, (profit f).1⟩ : Pay)].map encPay))), (9, (.var [(.dat (I r2))])), (8, (.var [(.own 32)])), (32, (.map Try.prog 3 3 (mapD m2)))]) (True ∧ True ∧ True ∧ True ∧ True ∧ (IntKind.i64.wrap ((mget m2 x21.c) + x21.a) = ((mget m2 x21.c) + x21.a)) ∧ True) (by kernel_rfl) ⟨trivial, trivial, trivial, trivial, trivial, (i64_wrap (by omega) (by omega)), trivial⟩ rfl ?_
            refine TL_mapUpdate 51 3 3 32 _ _ _ m2 x21.c ((mget m2 x21.c) + x21.a) rfl rfl (by kernel_rfl) (by kernel_rfl) (by kernel_rfl) (by kernel_rfl) (by kernel_rfl) (by kernel_rfl) (by kernel_rfl) ⟨by omega, by omega⟩ ⟨by omega, by omega⟩ (by simp only [maxLen]; omega) ?_
            refine TL_turn [] [1, 2, 5, 6, 7, 8] [] (mk 24 [(1, (.one (.ref 8 0))), (2, (.one (.ref 9 0))), (5, (.one (.ref 79 0))), (6, (.one (.own 44))), (7, (dt (I (([(⟨f.m, (profit f).1⟩ : Pay)].length : Nat) : Int)))), (8, (dt (I ((k2 : Nat) : Int))))] [(79, (.var [(.dat (I x21.c)), (.dat (I x21.a))])), (44, (.row 38 2 ([(⟨f.m, (profit f).1⟩ : Pay)].map encPay))), (9, (.var [(.dat (I r2))])), (8, (.var [(.own 32)])), (32, (.map Try.prog 3 3 (mapD (mput m2 x21.c ((mget m2 x21.c) + x21.a)))))]) (by kernel_rfl) ?_
            refine TL_nilQ ?_
            refine T_turn [] [1, 2, 5, 6, 7, 8] [] (mk 24 [(1, (.one (.ref 8 0))), (2, (.one (.ref 9 0))), (5, (.one (.ref 79 0))), (6, (.one (.own 44))), (7, (dt (I (([(⟨f.m, (profit f).1⟩ : Pay)].length : Nat) : Int)))), (8, (dt (I ((k2 : Nat) : Int))))] [(79, (.var [(.dat (I x21.c)), (.dat (I x21.a))])), (44, (.row 38 2 ([(⟨f.m, (profit f).1⟩ : Pay)].map encPay))), (9, (.var [(.dat (I r2))])), (8, (.var [(.own 32)])), (32, (.map Try.prog 3 3 (mapD (mput m2 x21.c ((mget m2 x21.c) + x21.a)))))]) (by kernel_rfl) ?_
            refine T_regE [{}, {}, {}, { d := some (I (r2 - x21.a)) }] (mk 24 [(1, (.one (.ref 8 0))), (2, (.one (.ref 9 0))), (5, (.one (.ref 79 0))), (6, (.one (.own 44))), (7, (dt (I (([(⟨f.m, (profit f).1⟩ : Pay)].length : Nat) : Int)))), (8, (dt (I ((k2 : Nat) : Int)))), (19, (dt (I r2))), (20, (.one (.ref 79 1))), (21, (dt (I x21.a))), (22, (dt (I (r2 - x21.a))))] [(79, (.var [(.dat (I x21.c)), (.dat (I x21.a))])), (44, (.row 38 2 ([(⟨f.m, (profit f).1⟩ : Pay)].map encPay))), (9, (.var [(.dat (I (r2 - x21.a)))])), (8, (.var [(.own 32)])), (32, (.map Try.prog 3 3 (mapD (mput m2 x21.c ((mget m2 x21.c) + x21.a)))))]) (True ∧ True ∧ True ∧ True ∧ True ∧ True ∧ True ∧ (IntKind.i64.wrap (r2 - x21.a) = (r2 - x21.a)) ∧ True ∧ True ∧ True) (by kernel_rfl) ⟨trivial, trivial, trivial, trivial, trivial, trivial, trivial, (i64_wrap (by omega) (by omega)), trivial, trivial, trivial⟩ ?_
            refine T_regE [{ d := some (I ((k2 + 1 : Nat) : Int)) }] (mk 24 [(1, (.one (.ref 8 0))), (2, (.one (.ref 9 0))), (5, (.one (.ref 79 0))), (6, (.one (.own 44))), (7, (dt (I (([(⟨f.m, (profit f).1⟩ : Pay)].length : Nat) : Int)))), (8, (dt (I ((k2 + 1 : Nat) : Int)))), (19, (dt (I r2))), (20, (.one (.ref 79 1))), (21, (dt (I x21.a))), (22, (dt (I (r2 - x21.a)))), (23, (dt (I ((k2 + 1 : Nat) : Int))))] [(79, (.var [(.dat (I x21.c)), (.dat (I x21.a))])), (44, (.row 38 2 ([(⟨f.m, (profit f).1⟩ : Pay)].map encPay))), (9, (.var [(.dat (I (r2 - x21.a)))])), (8, (.var [(.own 32)])), (32, (.map Try.prog 3 3 (mapD (mput m2 x21.c ((mget m2 x21.c) + x21.a)))))]) (True ∧ (IntKind.i64.wrap (((k2 : Nat) : Int) + 1) = ((k2 + 1 : Nat) : Int)) ∧ True ∧ True ∧ True) (by kernel_rfl) ⟨trivial, (by rw [i64_wrap (by omega) (by omega)]; omega), trivial, trivial, trivial⟩ ?_
            refine Exists.intro (k2 + 1, (mput m2 x21.c ((mget m2 x21.c) + x21.a)), (r2 - x21.a)) ⟨⟨by omega, by exact MP_step im2 hx22, by rw [sumA_snoc hx22]; omega, trivial⟩, by first | omega | (dsimp only; omega), le_turn [] [1, 2, 6, 7, 8] [79] (by kernel_rfl)⟩
          · skip
            have g23 : ¬ (((k2 : Nat) : Int) < (([(⟨f.m, (profit f).1⟩ : Pay)].length : Nat) : Int)) := of_decide_eq_false (h18)
            refine T_exit ?_
            refine ⟨[], by kernel_rfl, ?_⟩
            refine TL_turn [] [1, 4, 8, 9, 10, 45] [44] (mk 74 [(1, (dt (I s))), (4, (dt nilS)), (8, (.one (.ref 8 0))), (9, (.one (.ref 9 0))), (10, (.one (.fn 32 [.inl 8, .inl 9]))), (45, (.tup []))] [(9, (.var [(.dat (I r2))])), (8, (.var [(.own 32)])), (32, (.map Try.prog 3 3 (mapD m2)))]) (by kernel_rfl) ?_
            refine TL_nilQ ?_
            refine T_turn [] [1, 4, 8, 9, 10] [] (mk 74 [(1, (dt (I s))), (4, (dt nilS)), (8, (.one (.ref 8 0))), (9, (.one (.ref 9 0))), (10, (.one (.fn 32 [.inl 8, .inl 9])))] [(9, (.var [(.dat (I r2))])), (8, (.var [(.own 32)])), (32, (.map Try.prog 3 3 (mapD m2)))]) (by kernel_rfl) ?_
            refine T_seq (T_parts ?_)
            refine TL_part 5 [] (mk 74 [(1, (dt (I s))), (4, (dt nilS)), (8, (.one (.ref 8 0))), (9, (.one (.ref 9 0))), (10, (.one (.fn 32 [.inl 8, .inl 9]))), (46, (.one (.fn 32 [.inl 8, .inl 9]))), (47, (dt (I s))), (48, (dt (I r2))), (49, (.agg [(.dat (I s)), (.dat (I r2))])), (50, (.one (.own 50)))] [(50, (.row 38 2 ([(⟨s, r2⟩ : Pay)].map encPay))), (9, (.var [(.dat (I r2))])), (8, (.var [(.own 32)])), (32, (.map Try.prog 3 3 (mapD m2)))]) (True ∧ True ∧ True ∧ True ∧ True ∧ True ∧ True ∧ True ∧ True ∧ (dfill (fun i => some (i * 2, 2)) (List.replicate (1 * 2) .junk) [(0, [(.dat (I s)), (.dat (I r2))])] = some ((flat ([(⟨s, r2⟩ : Pay)].map encPay)).map .dat)) ∧ True) (by kernel_rfl) ⟨trivial, trivial, trivial, trivial, trivial, trivial, trivial, trivial, trivial, rfl, trivial⟩ rfl ?_
            refine TL_inline 74 32 [.inl 8, .inl 9] Try.f32 _ rfl rfl (by kernel_rfl) Try.func32 rfl rfl (by decide) ?_
            refine T_turn [] [0, 1, 2] [] (mk 24 [(0, (.one (.own 50))), (1, (.one (.ref 8 0))), (2, (.one (.ref 9 0)))] [(50, (.row 38 2 ([(⟨s, r2⟩ : Pay)].map encPay))), (9, (.var [(.dat (I r2))])), (8, (.var [(.own 32)])), (32, (.map Try.prog 3 3 (mapD m2)))]) (by kernel_rfl) ?_
            refine T_reg [{}, { d := some (I (([(⟨s, r2⟩ : Pay)].length : Nat) : Int)) }] [1, 2, 6, 7, 8] [] (mk 24 [(1, (.one (.ref 8 0))), (2, (.one (.ref 9 0))), (6, (.one (.own 50))), (7, (dt (I (([(⟨s, r2⟩ : Pay)].length : Nat) : Int)))), (8, (dt (I 0)))] [(50, (.row 38 2 ([(⟨s, r2⟩ : Pay)].map encPay))), (9, (.var [(.dat (I r2))])), (8, (.var [(.own 32)])), (32, (.map Try.prog 3 3 (mapD m2)))]) (True ∧ True ∧ True ∧ (True ∧ D.int .i64 (([(⟨s, r2⟩ : Pay)].map encPay).length : Int) = (I (([(⟨s, r2⟩ : Pay)].length : Nat) : Int))) ∧ True ∧ True ∧ True) (by kernel_rfl) ⟨trivial, trivial, trivial, ⟨trivial, by rw [List.length_map]⟩, trivial, trivial, trivial⟩ ?_
            refine T_block ?_
            have hr2 := rest_two ir1 (by omega) ir2 (by omega)
            have hS3 : SmallL ((((([] : List Pay) ++ shares f) ++ [(⟨f.m, (profit f).1⟩ : Pay)])) ++ [(⟨s, r2⟩ : Pay)]) 42 56294995342131250 := small_all (by omega) hr2
            have hK3 : ∀ p ∈ [(⟨s, r2⟩ : Pay)], -1 ≤ p.c ∧ p.c < 192 := fun p hp => by (simp at hp; subst hp; dsimp only; omega)
            have hT3 := small_one hS3
            have hLl3 := hT3.1
            refine T_turn [] [1, 2, 6, 7, 8] [] ((fun ((k3, m3, r3) : Nat × List (Int × Int) × Int) => (mk 24 [(1, (.one (.ref 8 0))), (2, (.one (.ref 9 0))), (6, (.one (.own 50))), (7, (dt (I (([(⟨s, r2⟩ : Pay)].length : Nat) : Int)))), (8, (dt (I ((k3 : Nat) : Int))))] [(50, (.row 38 2 ([(⟨s, r2⟩ : Pay)].map encPay))), (9, (.var [(.dat (I r3))])), (8, (.var [(.own 32)])), (32, (.map Try.prog 3 3 (mapD m3)))])) (0, m2, r2)) (by kernel_rfl) (T_loop (α := Nat × List (Int × Int) × Int) (fun ((k3, m3, r3) : Nat × List (Int × Int) × Int) => (mk 24 [(1, (.one (.ref 8 0))), (2, (.one (.ref 9 0))), (6, (.one (.own 50))), (7, (dt (I (([(⟨s, r2⟩ : Pay)].length : Nat) : Int)))), (8, (dt (I ((k3 : Nat) : Int))))] [(50, (.row 38 2 ([(⟨s, r2⟩ : Pay)].map encPay))), (9, (.var [(.dat (I r3))])), (8, (.var [(.own 32)])), (32, (.map Try.prog 3 3 (mapD m3)))])) (fun ((k3, m3, r3) : Nat × List (Int × Int) × Int) => (k3 ≤ [(⟨s, r2⟩ : Pay)].length) ∧ (MP m3 (((([] : List Pay) ++ shares f) ++ [(⟨f.m, (profit f).1⟩ : Pay)]) ++ [(⟨s, r2⟩ : Pay)].take k3)) ∧ (r3 = r2 - sumA ([(⟨s, r2⟩ : Pay)].take k3)) ∧ True) (fun ((k3, m3, r3) : Nat × List (Int × Int) × Int) => [(⟨s, r2⟩ : Pay)].length - k3) (0, m2, r2) ⟨Nat.zero_le _, by rw [List.take_zero, List.append_nil]; exact MP_all im2 (by omega), by simp [sumA], trivial⟩ ?_)
            rintro ⟨k3, m3, r3⟩ ⟨ik3, im3, ir3, _⟩
            have hsb3 := MP_bounds im3 (by decide) (small_take hS3 k3)
            have hml3 := im3.len
            have hml3b := (small_take hS3 k3).1
            have hrb3 := small_sum (by decide) hT3 k3
            refine T_reg [] [1, 2, 6, 7, 8, 9] [] (mk 24 [(1, (.one (.ref 8 0))), (2, (.one (.ref 9 0))), (6, (.one (.own 50))), (7, (dt (I (([(⟨s, r2⟩ : Pay)].length : Nat) : Int)))), (8, (dt (I ((k3 : Nat) : Int)))), (9, (dt (B (decide (((k3 : Nat) : Int) < (([(⟨s, r2⟩ : Pay)].length : Nat) : Int))))))] [(50, (.row 38 2 ([(⟨s, r2⟩ : Pay)].map encPay))), (9, (.var [(.dat (I r3))])), (8, (.var [(.own 32)])), (32, (.map Try.prog 3 3 (mapD m3)))]) (True ∧ True ∧ True) (by kernel_rfl) ⟨trivial, trivial, trivial⟩ ?_
            refine T_seq ?_
            refine T_cond (decide (((k3 : Nat) : Int) < (([(⟨s, r2⟩ : Pay)].length : Nat) : Int))) (by kernel_rfl) (fun h24 => ?_) (fun h24 => ?_)
            · skip
              have g25 : ((k3 : Nat) : Int) < (([(⟨s, r2⟩ : Pay)].length : Nat) : Int) := of_decide_eq_true (h24)
              refine T_skip ?_
              refine T_seq ?_
              refine T_block ?_
              have lt26 : k3 < ([(⟨s, r2⟩ : Pay)]).length := by first | omega | (simp only [List.length_set, List.length_map, List.length_append, List.length_cons, List.length_nil] at *; omega)
              obtain ⟨x27, hx28⟩ : ∃ x, ([(⟨s, r2⟩ : Pay)])[k3]? = some x := ⟨_, List.getElem?_eq_getElem lt26⟩
              have hxe3 := hT3.2 _ (List.mem_of_getElem? hx28)
              have hxk3 := hK3 _ (List.mem_of_getElem? hx28)
              have hxm3 := hsb3 x27.c
              refine T_reg [{}, { d := some (.agg [(I x27.c), (I x27.a)]) }] [1, 2, 5, 6, 7, 8] [] (mk 24 [(1, (.one (.ref 8 0))), (2, (.one (.ref 9 0))), (5, (.one (.ref 79 0))), (6, (.one (.own 50))), (7, (dt (I (([(⟨s, r2⟩ : Pay)].length : Nat) : Int)))), (8, (dt (I ((k3 : Nat) : Int))))] [(79, (.var [(.dat (I x27.c)), (.dat (I x27.a))])), (50, (.row 38 2 ([(⟨s, r2⟩ : Pay)].map encPay))), (9, (.var [(.dat (I r3))])), (8, (.var [(.own 32)])), (32, (.map Try.prog 3 3 (mapD m3)))]) (True ∧ (0 ≤ ((k3 : Nat) : Int) ∧ ((k3 : Nat) : Int) < ((([(⟨s, r2⟩ : Pay)].map encPay).length : Nat) : Int)) ∧ True ∧ (([(⟨s, r2⟩ : Pay)].map encPay)[k3]? = some (.agg [(I x27.c), (I x27.a)])) ∧ True ∧ True ∧ True ∧ True ∧ True) (by kernel_rfl) ⟨trivial, ⟨by omega, by rw [List.length_map]; first | omega | (simp only [List.length_append, List.length_set, List.length_map, List.length_cons, List.length_nil] at *; omega)⟩, trivial, (by rw [List.getElem?_map, hx28]; rfl), trivial, trivial, trivial, trivial, trivial⟩ ?_
              refine T_seq (T_parts ?_)
              refine TL_part 3 [] (mk 24 [(1, (.one (.ref 8 0))), (2, (.one (.ref 9 0))), (5, (.one (.ref 79 0))), (6, (.one (.own 50))), (7, (dt (I (([(⟨s, r2⟩ : Pay)].length : Nat) : Int)))), (8, (dt (I ((k3 : Nat) : Int)))), (12, (.one (.own 32))), (13, (.one (.ref 79 0))), (14, (dt (I x27.c)))] [(79, (.var [(.dat (I x27.c)), (.dat (I x27.a))])), (50, (.row 38 2 ([(⟨s, r2⟩ : Pay)].map encPay))), (9, (.var [(.dat (I r3))])), (8, (.var [(.own 32)])), (32, (.map Try.prog 3 3 (mapD m3)))]) (True ∧ True ∧ True ∧ True ∧ True ∧ True ∧ True) (by kernel_rfl) ⟨trivial, trivial, trivial, trivial, trivial, trivial, trivial⟩ rfl ?_
              refine TL_lookup 51 3 3 32 _ _ m3 x27.c rfl rfl (by kernel_rfl) (by kernel_rfl) (by kernel_rfl) (by kernel_rfl) (by kernel_rfl) (by kernel_rfl) (by kernel_rfl) ⟨by omega, by omega⟩ ?_
              refine TL_turn [] [1, 2, 5, 6, 7, 8, 12, 14, 15, 16, 17, 18] [] (mk 24 [(1, (.one (.ref 8 0))), (2, (.one (.ref 9 0))), (5, (.one (.ref 79 0))), (6, (.one (.own 50))), (7, (dt (I (([(⟨s, r2⟩ : Pay)].length : Nat) : Int)))), (8, (dt (I ((k3 : Nat) : Int)))), (12, (.one (.own 32))), (14, (dt (I x27.c))), (15, (dt (I (mget m3 x27.c))))] [(79, (.var [(.dat (I x27.c)), (.dat (I x27.a))])), (50, (.row 38 2 ([(⟨s, r2⟩ : Pay)].map encPay))), (9, (.var [(.dat (I r3))])), (8, (.var [(.own 32)])), (32, (.map Try.prog 3 3 (mapD m3)))]) (by kernel_rfl) ?_
              refine TL_part 3 [{}, {}, { d := some (I ((mget m3 x27.c) + x27.a)) }] (mk 24 [(1, (.one (.ref 8 0))), (2, (.one (.ref 9 0))), (5, (.one (.ref 79 0))), (6, (.one (.own 50))), (7, (dt (I (([(⟨s, r2⟩ : Pay)].length : Nat) : Int)))), (8, (dt (I ((k3 : Nat) : Int)))), (12, (.one (.own 32))), (14, (dt (I x27.c))), (15, (dt (I (mget m3 x27.c)))), (16, (.one (.ref 79 1))), (17, (dt (I x27.a))), (18, (dt (I ((mget m3 x27.c) + x27.a))))] [(79, (.var [(.dat (I x27.c)), (.dat (I x27.a))])), (50, (.row 38 2 ([(⟨s, r2⟩ : Pay)].map encPay))), (9, (.var [(.dat (I r3))])), (8, (.var [(.own 32)])), (32, (.map Try.prog 3 3 (mapD m3)))]) (True ∧ True ∧ True ∧ True ∧ True ∧ (IntKind.i64.wrap ((mget m3 x27.c) + x27.a) = ((mget m3 x27.c) + x27.a)) ∧ True) (by kernel_rfl) ⟨trivial, trivial, trivial, trivial, trivial, (i64_wrap (by omega) (by omega)), trivial⟩ rfl ?_
              refine TL_mapUpdate 51 3 3 32 _ _ _ m3 x27.c ((mget m3 x27.c) + x27.a) rfl rfl (by kernel_rfl) (by kernel_rfl) (by kernel_rfl) (by kernel_rfl) (by kernel_rfl) (by kernel_rfl) (by kernel_rfl) ⟨by omega, by omega⟩ ⟨by omega, by omega⟩ (by simp only [maxLen]; omega) ?_
              refine TL_turn [] [1, 2, 5, 6, 7, 8] [] (mk 24 [(1, (.one (.ref 8 0))), (2, (.one (.ref 9 0))), (5, (.one (.ref 79 0))), (6, (.one (.own 50))), (7, (dt (I (([(⟨s, r2⟩ : Pay)].length : Nat) : Int)))), (8, (dt (I ((k3 : Nat) : Int))))] [(79, (.var [(.dat (I x27.c)), (.dat (I x27.a))])), (50, (.row 38 2 ([(⟨s, r2⟩ : Pay)].map encPay))), (9, (.var [(.dat (I r3))])), (8, (.var [(.own 32)])), (32, (.map Try.prog 3 3 (mapD (mput m3 x27.c ((mget m3 x27.c) + x27.a)))))]) (by kernel_rfl) ?_
              refine TL_nilQ ?_
              refine T_turn [] [1, 2, 5, 6, 7, 8] [] (mk 24 [(1, (.one (.ref 8 0))), (2, (.one (.ref 9 0))), (5, (.one (.ref 79 0))), (6, (.one (.own 50))), (7, (dt (I (([(⟨s, r2⟩ : Pay)].length : Nat) : Int)))), (8, (dt (I ((k3 : Nat) : Int))))] [(79, (.var [(.dat (I x27.c)), (.dat (I x27.a))])), (50, (.row 38 2 ([(⟨s, r2⟩ : Pay)].map encPay))), (9, (.var [(.dat (I r3))])), (8, (.var [(.own 32)])), (32, (.map Try.prog 3 3 (mapD (mput m3 x27.c ((mget m3 x27.c) + x27.a)))))]) (by kernel_rfl) ?_
              refine T_regE [{}, {}, {}, { d := some (I (r3 - x27.a)) }] (mk 24 [(1, (.one (.ref 8 0))), (2, (.one (.ref 9 0))), (5, (.one (.ref 79 0))), (6, (.one (.own 50))), (7, (dt (I (([(⟨s, r2⟩ : Pay)].length : Nat) : Int)))), (8, (dt (I ((k3 : Nat) : Int)))), (19, (dt (I r3))), (20, (.one (.ref 79 1))), (21, (dt (I x27.a))), (22, (dt (I (r3 - x27.a))))] [(79, (.var [(.dat (I x27.c)), (.dat (I x27.a))])), (50, (.row 38 2 ([(⟨s, r2⟩ : Pay)].map encPay))), (9, (.var [(.dat (I (r3 - x27.a)))])), (8, (.var [(.own 32)])), (32, (.map Try.prog 3 3 (mapD (mput m3 x27.c ((mget m3 x27.c) + x27.a)))))]) (True ∧ True ∧ True ∧ True ∧ True ∧ True ∧ True ∧ (IntKind.i64.wrap (r3 - x27.a) = (r3 - x27.a)) ∧ True ∧ True ∧ True) (by kernel_rfl) ⟨trivial, trivial, trivial, trivial, trivial, trivial, trivial, (i64_wrap (by omega) (by omega)), trivial, trivial, trivial⟩ ?_
              refine T_regE [{ d := some (I ((k3 + 1 : Nat) : Int)) }] (mk 24 [(1, (.one (.ref 8 0))), (2, (.one (.ref 9 0))), (5, (.one (.ref 79 0))), (6, (.one (.own 50))), (7, (dt (I (([(⟨s, r2⟩ : Pay)].length : Nat) : Int)))), (8, (dt (I ((k3 + 1 : Nat) : Int)))), (19, (dt (I r3))), (20, (.one (.ref 79 1))), (21, (dt (I x27.a))), (22, (dt (I (r3 - x27.a)))), (23, (dt (I ((k3 + 1 : Nat) : Int))))] [(79, (.var [(.dat (I x27.c)), (.dat (I x27.a))])), (50, (.row 38 2 ([(⟨s, r2⟩ : Pay)].map encPay))), (9, (.var [(.dat (I (r3 - x27.a)))])), (8, (.var [(.own 32)])), (32, (.map Try.prog 3 3 (mapD (mput m3 x27.c ((mget m3 x27.c) + x27.a)))))]) (True ∧ (IntKind.i64.wrap (((k3 : Nat) : Int) + 1) = ((k3 + 1 : Nat) : Int)) ∧ True ∧ True ∧ True) (by kernel_rfl) ⟨trivial, (by rw [i64_wrap (by omega) (by omega)]; omega), trivial, trivial, trivial⟩ ?_
              refine Exists.intro (k3 + 1, (mput m3 x27.c ((mget m3 x27.c) + x27.a)), (r3 - x27.a)) ⟨⟨by omega, by exact MP_step im3 hx28, by rw [sumA_snoc hx28]; omega, trivial⟩, by first | omega | (dsimp only; omega), le_turn [] [1, 2, 6, 7, 8] [79] (by kernel_rfl)⟩
            · skip
              have g29 : ¬ (((k3 : Nat) : Int) < (([(⟨s, r2⟩ : Pay)].length : Nat) : Int)) := of_decide_eq_false (h24)
              refine T_exit ?_
              refine ⟨[], by kernel_rfl, ?_⟩
              refine TL_turn [] [4, 8, 51] [50, 9] (mk 74 [(4, (dt nilS)), (8, (.one (.ref 8 0))), (51, (.tup []))] [(8, (.var [(.own 32)])), (32, (.map Try.prog 3 3 (mapD m3)))]) (by kernel_rfl) ?_
              refine TL_nilQ ?_
              refine T_turn [] [4, 8] [] (mk 74 [(4, (dt nilS)), (8, (.one (.ref 8 0)))] [(8, (.var [(.own 32)])), (32, (.map Try.prog 3 3 (mapD m3)))]) (by kernel_rfl) ?_
              refine T_seq ?_
              have hmp := all_is hr2 im3 (by omega)
              have hmln := map_len hmp
              refine T_seq (T_parts ?_)
              refine TL_part 1 [] (mk 74 [(4, (dt nilS)), (8, (.one (.ref 8 0))), (52, (.one (.own 32)))] [(8, (.var [(.own 32)])), (32, (.map Try.prog 3 3 (mapD m3)))]) (True ∧ True ∧ True) (by kernel_rfl) ⟨trivial, trivial, trivial⟩ rfl ?_
              refine TL_keys 34 33 3 3 3 keys_ok 53 54 54 32 rfl rfl (by kernel_rfl) rfl rfl rfl (by kernel_rfl) rfl (by kernel_rfl) (by kernel_rfl) m3 (by kernel_rfl) (hmp.sorted) (by omega) (by decide) ?_
              refine TL_turn [] [4, 8, 53, 54, 55, 56] [] (mk 74 [(4, (dt nilS)), (8, (.one (.ref 8 0))), (54, (.one (.own 54)))] [(54, (.row 3 1 ((m3.map (·.1)).map encI))), (8, (.var [(.own 32)])), (32, (.map Try.prog 3 3 (mapD m3)))]) (by kernel_rfl) ?_
              refine TL_part 2 [{ d := some (I (((m3.map (·.1)).length : Nat) : Int)) }] (mk 74 [(4, (dt nilS)), (8, (.one (.ref 8 0))), (54, (.one (.own 54))), (55, (dt (I (((m3.map (·.1)).length : Nat) : Int)))), (56, (dt (I 0)))] [(54, (.row 3 1 ((m3.map (·.1)).map encI))), (8, (.var [(.own 32)])), (32, (.map Try.prog 3 3 (mapD m3)))]) (True ∧ (True ∧ D.int .i64 (((m3.map (·.1)).map encI).length : Int) = (I (((m3.map (·.1)).length : Nat) : Int))) ∧ True ∧ True ∧ True) (by kernel_rfl) ⟨trivial, ⟨trivial, by rw [List.length_map]⟩, trivial, trivial, trivial⟩ rfl ?_
              refine TL_nilQ ?_
              refine T_turn [] [4, 8, 54, 55, 56] [] (mk 74 [(4, (dt nilS)), (8, (.one (.ref 8 0))), (54, (.one (.own 54))), (55, (dt (I (((m3.map (·.1)).length : Nat) : Int)))), (56, (dt (I 0)))] [(54, (.row 3 1 ((m3.map (·.1)).map encI))), (8, (.var [(.own 32)])), (32, (.map Try.prog 3 3 (mapD m3)))]) (by kernel_rfl) ?_
              refine T_block ?_
              refine T_ownSlot 4 71 38 2 (mk 74 [(4, (.one (.own 71))), (8, (.one (.ref 8 0))), (54, (.one (.own 54))), (55, (dt (I (((m3.map (·.1)).length : Nat) : Int)))), (56, (dt (I 0)))] [(71, (.row 38 2 (([] : List Pay).map encPay))), (54, (.row 3 1 ((m3.map (·.1)).map encI))), (8, (.var [(.own 32)])), (32, (.map Try.prog 3 3 (mapD m3)))]) (by kernel_rfl) (by decide) ?_
              refine T_turn [] [4, 8, 54, 55, 56] [] ((fun ((k, o) : Nat × List Pay) => (mk 74 [(4, (.one (.own 71))), (8, (.one (.ref 8 0))), (54, (.one (.own 54))), (55, (dt (I (((m3.map (·.1)).length : Nat) : Int)))), (56, (dt (I ((k : Nat) : Int))))] [(71, (.row 38 2 (o.map encPay))), (54, (.row 3 1 ((m3.map (·.1)).map encI))), (8, (.var [(.own 32)])), (32, (.map Try.prog 3 3 (mapD m3)))])) (0, ([] : List Pay))) (by kernel_rfl) (T_loop (α := Nat × List Pay) (fun ((k, o) : Nat × List Pay) => (mk 74 [(4, (.one (.own 71))), (8, (.one (.ref 8 0))), (54, (.one (.own 54))), (55, (dt (I (((m3.map (·.1)).length : Nat) : Int)))), (56, (dt (I ((k : Nat) : Int))))] [(71, (.row 38 2 (o.map encPay))), (54, (.row 3 1 ((m3.map (·.1)).map encI))), (8, (.var [(.own 32)])), (32, (.map Try.prog 3 3 (mapD m3)))])) (fun ((k, o) : Nat × List Pay) => (k ≤ (m3.map (·.1)).length) ∧ (o.length ≤ k) ∧ (o = ((m3.map (·.1)).take k).filterMap (payOf (allP f s))) ∧ True) (fun ((k, o) : Nat × List Pay) => (m3.map (·.1)).length - k) (0, ([] : List Pay)) ⟨Nat.zero_le _, Nat.le_refl _, rfl, trivial⟩ ?_)
              rintro ⟨k, o⟩ ⟨ik, iol, io, _⟩
              refine T_reg [] [4, 8, 54, 55, 56, 57] [] (mk 74 [(4, (.one (.own 71))), (8, (.one (.ref 8 0))), (54, (.one (.own 54))), (55, (dt (I (((m3.map (·.1)).length : Nat) : Int)))), (56, (dt (I ((k : Nat) : Int)))), (57, (dt (B (decide (((k : Nat) : Int) < (((m3.map (·.1)).length : Nat) : Int))))))] [(71, (.row 38 2 (o.map encPay))), (54, (.row 3 1 ((m3.map (·.1)).map encI))), (8, (.var [(.own 32)])), (32, (.map Try.prog 3 3 (mapD m3)))]) (True ∧ True ∧ True) (by kernel_rfl) ⟨trivial, trivial, trivial⟩ ?_
              refine T_seq ?_
              refine T_cond (decide (((k : Nat) : Int) < (((m3.map (·.1)).length : Nat) : Int))) (by kernel_rfl) (fun h30 => ?_) (fun h30 => ?_)
              · skip
                have g31 : ((k : Nat) : Int) < (((m3.map (·.1)).length : Nat) : Int) := of_decide_eq_true (h30)
                refine T_skip ?_
                refine T_seq ?_
                refine T_block ?_
                have lt32 : k < ((m3.map (·.1))).length := by first | omega | (simp only [List.length_set, List.length_map, List.length_append, List.length_cons, List.length_nil] at *; omega)
                obtain ⟨x33, hx34⟩ : ∃ x, ((m3.map (·.1)))[k]? = some x := ⟨_, List.getElem?_eq_getElem lt32⟩
                have hkr := keyr (by omega) (by omega) hmp hx34
                refine T_reg [{}, { d := some (I x33) }] [4, 8, 12, 54, 55, 56] [] (mk 74 [(4, (.one (.own 71))), (8, (.one (.ref 8 0))), (12, (dt (I x33))), (54, (.one (.own 54))), (55, (dt (I (((m3.map (·.1)).length : Nat) : Int)))), (56, (dt (I ((k : Nat) : Int))))] [(71, (.row 38 2 (o.map encPay))), (54, (.row 3 1 ((m3.map (·.1)).map encI))), (8, (.var [(.own 32)])), (32, (.map Try.prog 3 3 (mapD m3)))]) (True ∧ (0 ≤ ((k : Nat) : Int) ∧ ((k : Nat) : Int) < ((((m3.map (·.1)).map encI).length : Nat) : Int)) ∧ True ∧ (((m3.map (·.1)).map encI)[k]? = some (I x33)) ∧ True ∧ True ∧ True) (by kernel_rfl) ⟨trivial, ⟨by omega, by rw [List.length_map]; first | omega | (simp only [List.length_append, List.length_set, List.length_map, List.length_cons, List.length_nil] at *; omega)⟩, trivial, (by rw [List.getElem?_map, hx34]; rfl), trivial, trivial, trivial⟩ ?_
                refine T_seq (T_parts ?_)
                refine TL_part 2 [] (mk 74 [(4, (.one (.own 71))), (8, (.one (.ref 8 0))), (12, (dt (I x33))), (54, (.one (.own 54))), (55, (dt (I (((m3.map (·.1)).length : Nat) : Int)))), (56, (dt (I ((k : Nat) : Int)))), (60, (.one (.own 32))), (61, (dt (I x33)))] [(71, (.row 38 2 (o.map encPay))), (54, (.row 3 1 ((m3.map (·.1)).map encI))), (8, (.var [(.own 32)])), (32, (.map Try.prog 3 3 (mapD m3)))]) (True ∧ True ∧ True ∧ True ∧ True) (by kernel_rfl) ⟨trivial, trivial, trivial, trivial, trivial⟩ rfl ?_
                refine TL_lookup 51 3 3 32 _ _ m3 x33 rfl rfl (by kernel_rfl) (by kernel_rfl) (by kernel_rfl) (by kernel_rfl) (by kernel_rfl) (by kernel_rfl) (by kernel_rfl) ⟨by omega, by omega⟩ ?_
                refine TL_turn [] [4, 8, 12, 54, 55, 56, 62, 63] [] (mk 74 [(4, (.one (.own 71))), (8, (.one (.ref 8 0))), (12, (dt (I x33))), (54, (.one (.own 54))), (55, (dt (I (((m3.map (·.1)).length : Nat) : Int)))), (56, (dt (I ((k : Nat) : Int)))), (62, (dt (I (mget m3 x33))))] [(71, (.row 38 2 (o.map encPay))), (54, (.row 3 1 ((m3.map (·.1)).map encI))), (8, (.var [(.own 32)])), (32, (.map Try.prog 3 3 (mapD m3)))]) (by kernel_rfl) ?_
                refine TL_part 1 [] (mk 74 [(4, (.one (.own 71))), (8, (.one (.ref 8 0))), (12, (dt (I x33))), (54, (.one (.own 54))), (55, (dt (I (((m3.map (·.1)).length : Nat) : Int)))), (56, (dt (I ((k : Nat) : Int)))), (62, (dt (I (mget m3 x33)))), (63, (dt (B (decide ((mget m3 x33) > 0)))))] [(71, (.row 38 2 (o.map encPay))), (54, (.row 3 1 ((m3.map (·.1)).map encI))), (8, (.var [(.own 32)])), (32, (.map Try.prog 3 3 (mapD m3)))]) (True ∧ True ∧ True) (by kernel_rfl) ⟨trivial, trivial, trivial⟩ rfl ?_
                refine TL_nilQ ?_
                refine T_turn [] [4, 8, 12, 54, 55, 56, 63] [] (mk 74 [(4, (.one (.own 71))), (8, (.one (.ref 8 0))), (12, (dt (I x33))), (54, (.one (.own 54))), (55, (dt (I (((m3.map (·.1)).length : Nat) : Int)))), (56, (dt (I ((k : Nat) : Int)))), (63, (dt (B (decide ((mget m3 x33) > 0)))))] [(71, (.row 38 2 (o.map encPay))), (54, (.row 3 1 ((m3.map (·.1)).map encI))), (8, (.var [(.own 32)])), (32, (.map Try.prog 3 3 (mapD m3)))]) (by kernel_rfl) ?_
                refine T_cond (decide ((mget m3 x33) > 0)) (by kernel_rfl) (fun h35 => ?_) (fun h35 => ?_)
                · skip
                  have g36 : (mget m3 x33) > 0 := of_decide_eq_true (h35)
                  refine T_parts ?_
                  refine TL_part 4 [] (mk 74 [(4, (.one (.own 71))), (8, (.one (.ref 8 0))), (12, (dt (I x33))), (54, (.one (.own 54))), (55, (dt (I (((m3.map (·.1)).length : Nat) : Int)))), (56, (dt (I ((k : Nat) : Int)))), (63, (dt (B (decide ((mget m3 x33) > 0))))), (64, (.one (.own 71))), (65, (dt (I x33))), (66, (.one (.own 32))), (67, (dt (I x33)))] [(71, (.row 38 2 (o.map encPay))), (54, (.row 3 1 ((m3.map (·.1)).map encI))), (8, (.var [(.own 32)])), (32, (.map Try.prog 3 3 (mapD m3)))]) (True ∧ True ∧ True ∧ True ∧ True ∧ True ∧ True ∧ True ∧ True) (by kernel_rfl) ⟨trivial, trivial, trivial, trivial, trivial, trivial, trivial, trivial, trivial⟩ rfl ?_
                  refine TL_lookup 51 3 3 32 _ _ m3 x33 rfl rfl (by kernel_rfl) (by kernel_rfl) (by kernel_rfl) (by kernel_rfl) (by kernel_rfl) (by kernel_rfl) (by kernel_rfl) ⟨by omega, by omega⟩ ?_
                  refine TL_turn [] [4, 8, 54, 55, 56, 64, 65, 68, 69, 70, 71] [] (mk 74 [(4, (.one (.own 71))), (8, (.one (.ref 8 0))), (54, (.one (.own 54))), (55, (dt (I (((m3.map (·.1)).length : Nat) : Int)))), (56, (dt (I ((k : Nat) : Int)))), (64, (.one (.own 71))), (65, (dt (I x33))), (68, (dt (I (mget m3 x33))))] [(71, (.row 38 2 (o.map encPay))), (54, (.row 3 1 ((m3.map (·.1)).map encI))), (8, (.var [(.own 32)])), (32, (.map Try.prog 3 3 (mapD m3)))]) (by kernel_rfl) ?_
                  refine TL_part 4 [{}, {}, { d := some (.sl 2 ((o ++ [(⟨x33, (mget m3 x33)⟩ : Pay)]).map encPay)) }] (mk 74 [(4, (.one (.own 71))), (8, (.one (.ref 8 0))), (54, (.one (.own 54))), (55, (dt (I (((m3.map (·.1)).length : Nat) : Int)))), (56, (dt (I ((k : Nat) : Int)))), (65, (dt (I x33))), (68, (dt (I (mget m3 x33)))), (69, (.agg [(.dat (I x33)), (.dat (I (mget m3 x33)))])), (70, (.one (.own 70))), (71, (.one (.own 71)))] [(71, (.row 38 2 ((o ++ [(⟨x33, (mget m3 x33)⟩ : Pay)]).map encPay))), (70, (.row 38 2 ([(⟨x33, (mget m3 x33)⟩ : Pay)].map encPay))), (54, (.row 3 1 ((m3.map (·.1)).map encI))), (8, (.var [(.own 32)])), (32, (.map Try.prog 3 3 (mapD m3)))]) (True ∧ True ∧ True ∧ (dfill (fun i => some (i * 2, 2)) (List.replicate (1 * 2) .junk) [(0, [(.dat (I x33)), (.dat (I (mget m3 x33)))])] = some ((flat ([(⟨x33, (mget m3 x33)⟩ : Pay)].map encPay)).map .dat)) ∧ True ∧ (((o.map encPay).length + ([(⟨x33, (mget m3 x33)⟩ : Pay)].map encPay).length) * 16 ≤ 140737488355328 ∧ cellsOne ([(⟨x33, (mget m3 x33)⟩ : Pay)].map encPay) ∧ (o.map encPay) ++ [(⟨x33, (mget m3 x33)⟩ : Pay)].map encPay = (o ++ [(⟨x33, (mget m3 x33)⟩ : Pay)]).map encPay) ∧ True ∧ True ∧ True) (by kernel_rfl) ⟨trivial, trivial, trivial, rfl, trivial, ⟨by simp only [List.length_map, List.length_nil, List.length_cons]; first | omega | (simp only [List.length_append, List.length_cons, List.length_nil]; omega), encPay_one _, by simp⟩, trivial, trivial, trivial⟩ rfl ?_
                  refine TL_nilQ ?_
                  refine T_regE [{ d := some (I ((k + 1 : Nat) : Int)) }] (mk 74 [(4, (.one (.own 71))), (8, (.one (.ref 8 0))), (54, (.one (.own 54))), (55, (dt (I (((m3.map (·.1)).length : Nat) : Int)))), (56, (dt (I ((k + 1 : Nat) : Int)))), (65, (dt (I x33))), (68, (dt (I (mget m3 x33)))), (69, (.agg [(.dat (I x33)), (.dat (I (mget m3 x33)))])), (70, (.one (.own 70))), (71, (.one (.own 71))), (72, (dt (I ((k + 1 : Nat) : Int))))] [(71, (.row 38 2 ((o ++ [(⟨x33, (mget m3 x33)⟩ : Pay)]).map encPay))), (70, (.row 38 2 ([(⟨x33, (mget m3 x33)⟩ : Pay)].map encPay))), (54, (.row 3 1 ((m3.map (·.1)).map encI))), (8, (.var [(.own 32)])), (32, (.map Try.prog 3 3 (mapD m3)))]) (True ∧ (IntKind.i64.wrap (((k : Nat) : Int) + 1) = ((k + 1 : Nat) : Int)) ∧ True ∧ True ∧ True) (by kernel_rfl) ⟨trivial, (by rw [i64_wrap (by omega) (by omega)]; omega), trivial, trivial, trivial⟩ ?_
                  refine Exists.intro (k + 1, (o ++ [(⟨x33, (mget m3 x33)⟩ : Pay)])) ⟨⟨by omega, by first | omega | (simp only [List.length_append, List.length_cons, List.length_nil]; omega), by exact key_yes hmp io hx34 (by assumption), trivial⟩, by first | omega | (dsimp only; omega), le_turn [] [4, 8, 54, 55, 56] [70] (by kernel_rfl)⟩
                · skip
                  have g37 : ¬ ((mget m3 x33) > 0) := of_decide_eq_false (h35)
                  refine T_skip ?_
                  refine T_regE [{ d := some (I ((k + 1 : Nat) : Int)) }] (mk 74 [(4, (.one (.own 71))), (8, (.one (.ref 8 0))), (12, (dt (I x33))), (54, (.one (.own 54))), (55, (dt (I (((m3.map (·.1)).length : Nat) : Int)))), (56, (dt (I ((k + 1 : Nat) : Int)))), (63, (dt (B (decide ((mget m3 x33) > 0))))), (72, (dt (I ((k + 1 : Nat) : Int))))] [(71, (.row 38 2 (o.map encPay))), (54, (.row 3 1 ((m3.map (·.1)).map encI))), (8, (.var [(.own 32)])), (32, (.map Try.prog 3 3 (mapD m3)))]) (True ∧ (IntKind.i64.wrap (((k : Nat) : Int) + 1) = ((k + 1 : Nat) : Int)) ∧ True ∧ True ∧ True) (by kernel_rfl) ⟨trivial, (by rw [i64_wrap (by omega) (by omega)]; omega), trivial, trivial, trivial⟩ ?_
                  refine Exists.intro (k + 1, o) ⟨⟨by omega, by first | omega | (simp only [List.length_append, List.length_cons, List.length_nil]; omega), by exact key_no hmp io hx34 (by assumption), trivial⟩, by first | omega | (dsimp only; omega), le_turn [] [4, 8, 54, 55, 56] [] (by kernel_rfl)⟩
              · skip
                have g38 : ¬ (((k : Nat) : Int) < (((m3.map (·.1)).length : Nat) : Int)) := of_decide_eq_false (h30)
                refine T_exit ?_
                refine T_reg [] [4, 5] [54, 8, 32] (mk 74 [(4, (.one (.own 71))), (5, (dt (I 0)))] [(71, (.row 38 2 (o.map encPay)))]) (True ∧ True ∧ True ∧ True ∧ True ∧ True ∧ True) (by kernel_rfl) ⟨trivial, trivial, trivial, trivial, trivial, trivial, trivial⟩ ?_
                refine T_ret ?_
                exact ret_here [(.one (.own 71)), (dt (I 0))] (by kernel_rfl) ⟨(by show D.sl 2 ((pays f s).map encPay) = D.sl 2 (o.map encPay); exact congrArg (fun l => D.sl 2 (l.map encPay)) (by first | (rw [pays, if_pos (by omega)]; done) | (rw [pays, if_neg (by omega), if_pos (by omega)]; done) | (rw [paysE, if_pos (by omega)]; done) | (rw [paysE, if_pos (by omega)]; omega; done) | (rw [paysE, if_neg (by omega), if_pos (by omega)]; done) | (rw [paysE, if_neg (by omega), if_neg (by omega)]; done) | (exact keys_end (by omega) (by omega) hmp io (by omega); done) : (pays f s) = o)), (.inl (congrArg I (by first | (rw [pays, if_pos (by omega)]; done) | (rw [pays, if_neg (by omega), if_pos (by omega)]; done) | (rw [paysE, if_pos (by omega)]; done) | (rw [paysE, if_pos (by omega)]; omega; done) | (rw [paysE, if_neg (by omega), if_pos (by omega)]; done) | (rw [paysE, if_neg (by omega), if_neg (by omega)]; done) | (exact keys_end (by omega) (by omega) hmp io (by omega); done) : 0 = (paysE f s)))), trivial⟩

end Go.Proofs.Ythpjlkpkhlkhbaa

/-
  Plain laws of parts, shares and payments: sums, proportions, order. Conditions: those of each theorem.
-/
set_option linter.unusedVariables false
set_option linter.unusedSimpArgs false
namespace Go.Proofs.Ythpjlkpkhlkhbaa
open Go.DL
def sumF (l : List Int) : Int := l.foldr (· + ·) 0
theorem sumF_cons (x : Int) (l : List Int) : sumF (x :: l) = x + sumF l := rfl
theorem sumF_append (a b : List Int) : sumF (a ++ b) = sumF a + sumF b := by
  induction a with
  | nil => simp [sumF]
  | cons x a ih => rw [List.cons_append, sumF_cons, sumF_cons, ih]; omega
theorem sumF_perm {a b : List Int} (h : a.Perm b) : sumF a = sumF b := by
  induction h with
  | nil => rfl
  | cons x _ ih => rw [sumF_cons, sumF_cons, ih]
  | swap x y l => simp only [sumF_cons]; omega
  | trans _ _ h1 h2 => exact h1.trans h2
theorem sumF_sumL (l : List Int) : sumF l = sumL 0 l := by
  induction l with
  | nil => rfl
  | cons x l ih =>
    rw [sumF_cons, ih]
    have e : sumL 0 (x :: l) = sumL 0 l + x := by simp only [sumL]; exact sumL_add l 0 x
    omega
theorem leftOf_sum (a : Int) (ps : List Part) : leftOf a ps = a - sumF (ps.map (·.c)) := by
  induction ps generalizing a with
  | nil => simp [leftOf, sumF]
  | cons x l ih =>
    have e : leftOf a (x :: l) = leftOf (a - x.c) l := rfl
    rw [e, ih, List.map_cons, sumF_cons]; omega
theorem sum_bump (f : Part → Int) (g : Part → Bool) (ps : List Part) : sumF (ps.map fun p => f p + if g p = true then 1 else 0) = sumF (ps.map f) + (ps.countP g : Nat) := by
  induction ps with
  | nil => rfl
  | cons x l ih =>
    rw [List.map_cons, List.map_cons, sumF_cons, sumF_cons, ih, List.countP_cons]
    split <;> omega
theorem count_rank {a s : Int} {ws : List Int} {m : Nat} (hm : m ≤ ws.length) : (partsOf a s ws).countP (fun p => decide (rank (partsOf a s ws) p < m)) = m := by
  obtain ⟨d, hR⟩ := sorted_is (partsOf a s ws)
  have hn := sorted_nodup hR
  have hlen : d.length = ws.length := by rw [hR.1.length_eq, partsOf_length]
  rw [← hR.1.countP_eq]
  have h1 : (d.take m).countP (fun p => decide (rank (partsOf a s ws) p < m)) = m := by
    rw [List.countP_eq_length.2, List.length_take, Nat.min_eq_left (by omega)]
    intro y hy
    obtain ⟨i, hi, rfl⟩ := List.mem_iff_getElem.1 hy
    rw [List.length_take] at hi
    rw [List.getElem_take, rank_at hR hn (List.getElem?_eq_getElem (show i < d.length by omega))]
    simp; omega
  have h2 : (d.drop m).countP (fun p => decide (rank (partsOf a s ws) p < m)) = 0 := by
    rw [List.countP_eq_zero]
    intro y hy
    obtain ⟨i, hi, rfl⟩ := List.mem_iff_getElem.1 hy
    rw [List.length_drop] at hi
    rw [List.getElem_drop, rank_at hR hn (List.getElem?_eq_getElem (show m + i < d.length by omega))]
    simp
  have h3 : d.countP (fun p => decide (rank (partsOf a s ws) p < m)) = (d.take m ++ d.drop m).countP (fun p => decide (rank (partsOf a s ws) p < m)) := by rw [List.take_append_drop]
  rw [h3, List.countP_append, h1, h2, Nat.add_zero]
/-- The parts add up to the amount. -/
theorem split_sum {a : Int} {ws : List Int} (h : SplitPre a ws) : sumF (splitW a (sumL 0 ws) ws) = a := by
  have hr := left_range h.ha h.hs (fun x hx => (h.hw x hx).1) rfl
  have hs := leftOf_sum a (partsOf a (sumL 0 ws) ws)
  generalize hL : leftOf a (partsOf a (sumL 0 ws) ws) = L at hr hs
  have hw := sumL_nil ws
  have hpos := h.hs
  obtain ⟨m, rfl⟩ : ∃ m : Nat, L = m := ⟨L.toNat, by omega⟩
  have hc := count_rank (a := a) (s := sumL 0 ws) (ws := ws) (m := m) (by omega)
  have e : splitW a (sumL 0 ws) ws = (partsOf a (sumL 0 ws) ws).map fun p => p.c + if (fun p => decide (rank (partsOf a (sumL 0 ws) ws) p < m)) p = true then 1 else 0 := by
    rw [splitW, hL]
    exact List.map_congr_left fun p _ => by simp
  rw [e, sum_bump, hc]
  show sumF ((partsOf a (sumL 0 ws) ws).map (·.c)) + ((m : Nat) : Int) = a
  omega
theorem sum_le {s : Int} : ∀ {l : List Int}, (∀ x ∈ l, x ≤ s - 1) → sumF l ≤ (l.length : Int) * (s - 1)
  | [], _ => by simp [sumF]
  | x :: l, h => by
    have h1 := sum_le fun y hy => h y (List.mem_cons_of_mem _ hy)
    have h2 := h x (by simp)
    simp only [sumF_cons, List.length_cons, Int.natCast_add, Int.natCast_one, Int.add_mul, Int.one_mul]
    omega
theorem sum_zero : ∀ {l : List Int}, (∀ x ∈ l, x = 0) → sumF l = 0
  | [], _ => rfl
  | x :: l, h => by rw [sumF_cons, sum_zero fun y hy => h y (List.mem_cons_of_mem _ hy), h x (by simp)]; rfl
/-- A part that is raised has a rest. -/
theorem raised_pos {a s : Int} {ws : List Int} (ha : 0 ≤ a) (hs : 0 < s) (hw : ∀ x ∈ ws, 0 ≤ x) (hss : s = sumL 0 ws) {p : Part} (hp : p ∈ partsOf a s ws) (hr : (rank (partsOf a s ws) p : Int) < leftOf a (partsOf a s ws)) : 0 < p.r := by
  obtain ⟨d, hR⟩ := sorted_is (partsOf a s ws)
  have hn := sorted_nodup hR
  have hsum := left_spec ha hs hw hss
  have hsum' : leftOf a (partsOf a s ws) * s = sumF ((partsOf a s ws).map (·.r)) := hsum
  rw [← sumF_perm (hR.1.map (·.r))] at hsum'
  obtain ⟨i, hi, rfl⟩ := List.mem_iff_getElem.1 (hR.1.mem_iff.2 hp)
  rw [rank_at hR hn (List.getElem?_eq_getElem hi)] at hr
  have hb := fun q hq => rest_bounds ha hs hw (p := q) (hR.1.mem_iff.1 hq)
  have h0 := hb _ (List.getElem_mem hi)
  refine Int.not_le.1 fun hle => ?_
  have hz : d[i].r = 0 := by omega
  have hpw := List.pairwise_iff_getElem.1 hR.2
  have e : d = d.take i ++ d.drop i := (List.take_append_drop i d).symm
  have e2 : sumF (d.map (·.r)) = sumF ((d.take i).map (·.r)) + sumF ((d.drop i).map (·.r)) := by
    rw [← sumF_append, ← List.map_append, List.take_append_drop]
  have h2 : sumF ((d.drop i).map (·.r)) = 0 := by
    refine sum_zero fun x hx => ?_
    obtain ⟨q, hq, rfl⟩ := List.mem_map.1 hx
    obtain ⟨j, hj, rfl⟩ := List.mem_iff_getElem.1 hq
    rw [List.length_drop] at hj
    rw [List.getElem_drop]
    have hbj := hb _ (List.getElem_mem (show i + j < d.length by omega))
    by_cases hj0 : j = 0
    · subst hj0; exact hz
    · have h3 := hpw i (i + j) hi (by omega) (by omega)
      simp only [ahead, Bool.or_eq_false_iff, decide_eq_false_iff_not] at h3
      omega
  have h1 := sum_le (s := s) (l := (d.take i).map (·.r)) fun x hx => by
    obtain ⟨q, hq, rfl⟩ := List.mem_map.1 hx
    have := hb q (List.mem_of_mem_take hq); omega
  rw [List.length_map, List.length_take, Nat.min_eq_left (by omega)] at h1
  have h4 : ((i : Int) + 1) * s ≤ leftOf a (partsOf a s ws) * s := Int.mul_le_mul_of_nonneg_right (by omega) (Int.le_of_lt hs)
  rw [Int.add_mul, Int.one_mul] at h4
  rw [Int.mul_sub, Int.mul_one] at h1
  omega
/-- Each part differs by less than one from its proportion. -/
theorem split_near {a : Int} {ws : List Int} (h : SplitPre a ws) {k : Nat} {n w : Int} (hn : (splitW a (sumL 0 ws) ws)[k]? = some n) (hk : ws[k]? = some w) :
    n * sumL 0 ws - a * w < sumL 0 ws ∧ -(sumL 0 ws) < n * sumL 0 ws - a * w := by
  have hw0 : ∀ x ∈ ws, 0 ≤ x := fun x hx => (h.hw x hx).1
  rw [splitW, List.getElem?_map, part_get hk, Option.map_some, Option.some.injEq] at hn
  have hm := List.mem_of_getElem? (part_get (a := a) (s := sumL 0 ws) hk)
  have hb := rest_bounds h.ha h.hs hw0 hm
  have hrp := fun hr => raised_pos h.ha h.hs hw0 rfl hm hr
  have hd := Int.mul_tdiv_add_tmod (a * w) (sumL 0 ws)
  dsimp only at hb hrp hn
  have hS := h.hs
  generalize sumL 0 ws = S at *
  generalize (a * w).tdiv S = q at *
  generalize (a * w).tmod S = r at *
  generalize a * w = z at *
  split at hn
  · rename_i hlt
    have := hrp hlt
    rw [← hn, Int.add_mul, Int.one_mul, Int.mul_comm q S]
    omega
  · rw [← hn, Int.add_zero, Int.mul_comm q S]
    omega

/-! ### shares -/
theorem trOK_inc {p : Int} {l : List Train} (h : trOK p l = true) : (l.map (·.c)).Pairwise (· < ·) := by
  induction l generalizing p with
  | nil => simp
  | cons x l ih =>
    rw [trOK] at h
    split at h
    · cases h
    · rw [List.map_cons, List.pairwise_cons]
      refine ⟨fun c hc => ?_, ih h⟩
      obtain ⟨t, ht, rfl⟩ := List.mem_map.1 hc
      exact (trOK_all h t ht).2.2.2.2
theorem pickPos_sum : ∀ (l : List Train) (P : List Int), l.length = P.length → (∀ n ∈ P, 0 ≤ n) → sumA (pickPos l P) = sumF P
  | [], [], _, _ => rfl
  | t :: ts, n :: ns, hl, h => by
    have ih := pickPos_sum ts ns (by simpa using hl) fun x hx => h x (by simp [hx])
    have h0 := h n (by simp)
    rw [pickPos, sumF_cons]
    split
    · rw [sumA, ih]
    · rw [ih]; omega
  | [], _ :: _, hl, _ => by simp at hl
  | _ :: _, [], hl, _ => by simp at hl
theorem pickPos_amt_not {c : Int} : ∀ {l : List Train} {P : List Int}, c ∉ l.map (·.c) → amt c (pickPos l P) = 0
  | [], P, _ => by simp [pickPos, amt]
  | t :: ts, [], _ => by simp [pickPos, amt]
  | t :: ts, n :: ns, h => by
    rw [List.map_cons, List.mem_cons, not_or] at h
    rw [pickPos]
    split
    · rw [amt, if_neg (fun e => h.1 e.symm), pickPos_amt_not h.2]
    · exact pickPos_amt_not h.2
theorem pickPos_amt : ∀ {l : List Train} {P : List Int} {k : Nat} {t : Train} {n : Int}, (l.map (·.c)).Pairwise (· < ·) → (∀ n ∈ P, 0 ≤ n) → l[k]? = some t → P[k]? = some n → amt t.c (pickPos l P) = n
  | [], _, _, _, _, _, _, h, _ => by simp at h
  | _ :: _, [], _, _, _, _, _, _, h => by simp at h
  | t :: ts, m :: ns, k, t', n, hp, h0, h1, h2 => by
    rw [List.map_cons, List.pairwise_cons] at hp
    have hm := h0 m (by simp)
    cases k with
    | zero =>
      simp at h1 h2; subst h1 h2
      rw [pickPos]
      split
      · rw [amt, if_pos rfl]
      · rw [pickPos_amt_not fun hc => Int.lt_irrefl _ (hp.1 _ hc)]; omega
    | succ k =>
      have h1' : ts[k]? = some t' := by simpa using h1
      have h2' : ns[k]? = some n := by simpa using h2
      have hlt := hp.1 t'.c (List.mem_map.2 ⟨t', List.mem_of_getElem? h1', rfl⟩)
      have ih := pickPos_amt hp.2 (fun x hx => h0 x (by simp [hx])) h1' h2'
      rw [pickPos]
      split
      · rw [amt, if_neg (show ¬ t.c = t'.c by omega), ih]
      · exact ih
theorem pickPos_inc {p : Int} : ∀ {l : List Train} {P : List Int}, (l.map (·.c)).Pairwise (· < ·) → ((pickPos l P).map (·.c)).Pairwise (· < ·)
  | [], P, _ => by simp [pickPos]
  | _ :: _, [], _ => by simp [pickPos]
  | t :: ts, n :: ns, h => by
    rw [List.map_cons, List.pairwise_cons] at h
    have ih := pickPos_inc (p := p) (P := ns) h.2
    rw [pickPos]
    split
    · rw [List.map_cons, List.pairwise_cons]
      refine ⟨fun c hc => ?_, ih⟩
      obtain ⟨q, hq, rfl⟩ := List.mem_map.1 hc
      obtain ⟨⟨t', ht', e⟩, _, _⟩ := pickPos_mem hq
      rw [← e]
      exact h.1 _ (List.mem_map.2 ⟨t', ht', rfl⟩)
    · exact ih
/-- In a list of different clubs a club gets what its entry says. -/
theorem amt_tot {c : Int} : ∀ {l : List Pay}, (l.map (·.c)).Pairwise (· < ·) → amt c l = tot c l
  | [], _ => rfl
  | x :: l, h => by
    rw [List.map_cons, List.pairwise_cons] at h
    rw [amt, tot]
    split
    · rename_i e
      have : tot c l = 0 := by
        clear amt_tot
        have hall : ∀ q ∈ l, q.c ≠ c := fun q hq e2 => by have := h.1 q.c (List.mem_map.2 ⟨q, hq, rfl⟩); omega
        clear h
        induction l with
        | nil => rfl
        | cons y l ih => rw [tot, if_neg (hall y (by simp)), ih fun q hq => hall q (by simp [hq])]; rfl
      omega
    · rw [amt_tot h.2]; omega
theorem shares_sum {f : Fee} (h : chk f = 0) : sumA (shares f) = solid f := by
  rw [shares, if_neg (by omega)]
  by_cases hn : f.t.length = 0
  · have : f.t = [] := List.eq_nil_of_length_eq_zero hn
    rw [this]; simp [pickPos, sumA, solid, this]
  · have hp := split_pre h hn
    rw [pickPos_sum _ _ (partsF_length f).symm fun x hx => (splitW_bounds hp x hx).1]
    exact split_sum hp
theorem shares_inc (f : Fee) : ((shares f).map (·.c)).Pairwise (· < ·) := by
  rw [shares]
  split
  · simp
  · rcases chk_cases f with h2 | ⟨_, _, ht⟩
    · omega
    · exact pickPos_inc (p := 0) (trOK_inc ht)
theorem shares_amt (f : Fee) (c : Int) : amt c (shares f) = tot c (shares f) := amt_tot (shares_inc f)

/-! ### payments -/
def restF (f : Fee) : Int := f.a - sumA (shares f) - (profit f).1
theorem rest_nonneg {f : Fee} (h : chk f = 0) : 0 ≤ restF f := by
  have hb := solid_bounds f h
  have hs := shares_sum h
  have hp := profit_rest h
  unfold restF
  omega
theorem tot_all (f : Fee) (s c : Int) : tot c (allP f s) = tot c (shares f) + (if f.m = c then (profit f).1 else 0) + (if s = c then restF f else 0) := by
  simp only [allP, tot_append, tot, restF]; omega
theorem sum_all (f : Fee) (s : Int) : sumA (allP f s) = f.a := by
  simp only [allP, sumA_append, sumA]; omega
theorem tot_nonneg {f : Fee} (h : chk f = 0) (s c : Int) : 0 ≤ tot c (allP f s) := by
  rw [tot_all]
  have h1 := tot_bounds (l := shares f) c fun p hp => by have := shares_mem hp; omega
  have h2 := profit_bounds (f := f)
  have h3 := rest_nonneg h
  split <;> split <;> omega
theorem payOf_c {L : List Pay} {c : Int} {q : Pay} (he : payOf L c = some q) : q.c = c ∧ q.a = tot c L ∧ 0 < q.a := by
  unfold payOf at he
  split at he
  · cases he; exact ⟨rfl, rfl, by assumption⟩
  · cases he
theorem payList_inc (L : List Pay) : ((payList L).map (·.c)).Pairwise (· < ·) := by
  rw [List.pairwise_map]
  exact List.Pairwise.filterMap (S := fun a b : Pay => a.c < b.c) _ (fun a a' (hlt : a < a') b hb b' hb' => by rw [(payOf_c hb).1, (payOf_c hb').1]; omega) List.pairwise_lt_range
theorem payList_mem {L : List Pay} {q : Pay} (h : q ∈ payList L) : 0 ≤ q.c ∧ q.c < 192 ∧ q.a = tot q.c L ∧ 0 < q.a := by
  simp only [payList, List.mem_filterMap, List.mem_range] at h
  obtain ⟨c, hc, he⟩ := h
  have := payOf_c he
  rw [this.1]
  exact ⟨by omega, by omega, this.2.1, this.2.2⟩
theorem fm_snoc2 (g : Nat → Option Pay) (c : Nat) : (List.range (c + 1)).filterMap g = (List.range c).filterMap g ++ (g c).toList := by
  rw [List.range_succ, List.filterMap_append]
  cases h : g c <;> simp [h]
theorem tot_opt {L : List Pay} (h0 : ∀ c, 0 ≤ tot c L) (n : Int) : tot n (payOf L n).toList = tot n L ∧ sumA (payOf L n).toList = tot n L := by
  have := h0 n
  unfold payOf
  split
  · simp [tot, sumA]
  · simp [tot, sumA]; omega
theorem payList_tot {L : List Pay} (h0 : ∀ c, 0 ≤ tot c L) {c : Int} (hc : 0 ≤ c ∧ c < 192) : tot c (payList L) = tot c L := by
  have key : ∀ n : Nat, tot c ((List.range n).filterMap fun c => payOf L (c : Nat)) = if c < n then tot c L else 0 := by
    intro n
    induction n with
    | zero => simp [tot]; omega
    | succ n ih =>
      rw [fm_snoc2, tot_append, ih]
      by_cases e : c = n
      · subst e
        rw [if_neg (by omega), if_pos (by omega), (tot_opt h0 _).1]; omega
      · have : tot c (payOf L (n : Nat)).toList = 0 := by
          cases hp : payOf L (n : Nat) with
          | none => rfl
          | some q => have := (payOf_c hp).1; simp [tot]; omega
        rw [this]
        by_cases h1 : c < n
        · rw [if_pos h1, if_pos (by omega)]; omega
        · rw [if_neg h1, if_neg (by omega)]; rfl
  have := key 192
  rw [if_pos (by omega)] at this
  exact this
theorem payList_sum {L : List Pay} (h0 : ∀ c, 0 ≤ tot c L) (hL : ∀ p ∈ L, p.c < 192 ∧ (p.c < 0 → p.a = 0)) : sumA (payList L) = sumA L := by
  have key : ∀ n : Nat, sumA ((List.range n).filterMap fun c => payOf L (c : Nat)) = sumA (L.filter fun p => decide (0 ≤ p.c) && decide (p.c < n)) := by
    intro n
    induction n with
    | zero =>
      have : (L.filter fun p => decide (0 ≤ p.c) && decide (p.c < ((0 : Nat) : Int))) = [] := by
        rw [List.filter_eq_nil_iff]; intro p _; simp
      rw [this]; rfl
    | succ n ih =>
      rw [fm_snoc2, sumA_append, ih, (tot_opt h0 _).2]
      clear ih h0 hL
      induction L with
      | nil => rfl
      | cons p l ih =>
        simp only [List.filter_cons, tot]
        by_cases h1 : 0 ≤ p.c
        · by_cases h2 : p.c < n
          · have h3 : p.c < (n + 1 : Nat) := by omega
            simp only [h1, h2, h3, decide_true, Bool.and_self, if_true, sumA]
            rw [if_neg (by omega)]; omega
          · by_cases h3 : p.c = n
            · have h4 : p.c < (n + 1 : Nat) := by omega
              simp only [h1, h2, h4, decide_true, decide_false, Bool.and_self, Bool.and_false, if_true, Bool.false_eq_true, if_false, sumA]
              rw [if_pos h3]; omega
            · have h4 : ¬ p.c < (n + 1 : Nat) := by omega
              simp only [h1, h2, h4, decide_true, decide_false, Bool.and_false, Bool.false_eq_true, if_false]
              rw [if_neg h3]; omega
        · simp only [h1, decide_false, Bool.false_and, Bool.false_eq_true, if_false]
          rw [if_neg (by omega)]; omega
  have h1 : sumA (payList L) = sumA (L.filter fun p => decide (0 ≤ p.c) && decide (p.c < (192 : Nat))) := key 192
  rw [h1]
  clear h1 key h0
  induction L with
  | nil => rfl
  | cons p l ih =>
    have h2 := hL p (by simp)
    have h3 := ih fun q hq => hL q (by simp [hq])
    simp only [List.filter_cons]
    by_cases h1 : 0 ≤ p.c
    · have h4 : p.c < (192 : Nat) := by omega
      simp only [h1, h4, decide_true, Bool.and_self, if_true, sumA]; omega
    · simp only [h1, decide_false, Bool.false_and, Bool.false_eq_true, if_false, sumA]
      have := h2.2 (by omega); omega
theorem all_mem {f : Fee} {s : Int} (hc : chk f = 0) (hs : ¬ (s < 0 ∨ s ≥ 192)) : ∀ p ∈ allP f s, p.c < 192 ∧ (p.c < 0 → p.a = 0) := by
  intro p hp
  simp only [allP, List.mem_append, List.mem_singleton] at hp
  rcases hp with (hp | rfl) | rfl
  · have := shares_mem hp; omega
  · dsimp only
    have h1 := @profit_none f
    rcases chk_cases f with h2 | ⟨_, hh, _⟩
    · omega
    · unfold headOK at hh
      exact ⟨by omega, h1⟩
  · dsimp only; omega
theorem pays_eq {f : Fee} {s : Int} (h : paysE f s = 0) : pays f s = payList (allP f s) ∧ chk f = 0 ∧ 0 ≤ s ∧ s < 192 := by
  unfold paysE at h
  split at h
  · exact absurd h (by assumption)
  · split at h
    · cases h
    · rename_i h1 h2
      rw [pays, if_neg h1, if_neg h2]
      exact ⟨rfl, by omega, by omega, by omega⟩
theorem pays_nil {f : Fee} {s : Int} (h : paysE f s ≠ 0) : pays f s = [] ∧ (paysE f s = chk f ∨ paysE f s = 1 ∧ (s < 0 ∨ s ≥ 192)) := by
  unfold paysE at h ⊢
  unfold pays
  split
  · exact ⟨rfl, .inl rfl⟩
  · rename_i h1
    rw [if_neg h1] at h
    split
    · exact ⟨rfl, .inr ⟨rfl, by assumption⟩⟩
    · rename_i h2; rw [if_neg h2] at h; exact absurd rfl h
theorem pays_sum {f : Fee} {s : Int} (h : paysE f s = 0) : sumA (pays f s) = f.a := by
  obtain ⟨e, hc, h1, h2⟩ := pays_eq h
  rw [e, payList_sum (tot_nonneg hc s) (all_mem hc (by omega)), sum_all]
theorem pays_mem {f : Fee} {s : Int} {q : Pay} (hq : q ∈ pays f s) : 0 ≤ q.c ∧ q.c < 192 ∧ 0 < q.a := by
  by_cases h : paysE f s = 0
  · rw [(pays_eq h).1] at hq
    have := payList_mem hq; omega
  · rw [(pays_nil h).1] at hq; cases hq
theorem pays_inc (f : Fee) (s : Int) : ((pays f s).map (·.c)).Pairwise (· < ·) := by
  by_cases h : paysE f s = 0
  · rw [(pays_eq h).1]; exact payList_inc _
  · rw [(pays_nil h).1]; simp
theorem pays_amt {f : Fee} {s c : Int} (h : paysE f s = 0) (hc : 0 ≤ c ∧ c < 192) : amt c (pays f s) = amt c (shares f) + (if f.m = c then (profit f).1 else 0) + (if s = c then restF f else 0) := by
  obtain ⟨e, hc', h1, h2⟩ := pays_eq h
  rw [amt_tot (pays_inc f s), e, payList_tot (tot_nonneg hc' s) hc, tot_all, shares_amt]
theorem inc_get {l : List Pay} (h : (l.map (·.c)).Pairwise (· < ·)) {k : Nat} {x y : Pay} (hk : 0 < k) (hx : l[k - 1]? = some x) (hy : l[k]? = some y) : x.c < y.c := by
  obtain ⟨h1, rfl⟩ := List.getElem?_eq_some_iff.1 hx
  obtain ⟨h2, rfl⟩ := List.getElem?_eq_some_iff.1 hy
  have := List.pairwise_iff_getElem.1 h (k - 1) k (by simpa using h1) (by simpa using h2) (by omega)
  simpa using this
end Go.Proofs.Ythpjlkpkhlkhbaa

/-
  What the laws of chapter 38 ask of the plain data. Conditions: those of each theorem.
-/
set_option linter.unusedVariables false
set_option linter.unusedSimpArgs false
namespace Go.Proofs.Ythpjlkpkhlkhbaa
open Go.DL
def sumM (n : Int) : List Int → Int × Int
  | [] => (n, 0)
  | x :: l => if chkM x ≠ 0 ∨ chkM (n + x) ≠ 0 then (0, 50) else sumM (n + x) l
theorem sumM_ok {n : Int} {l : List Int} (h0 : 0 ≤ n) (h : ∀ x ∈ l, 0 ≤ x) (hs : n + sumF l ≤ 1125899906842624) : sumM n l = (n + sumF l, 0) := by
  induction l generalizing n with
  | nil => simp [sumM, sumF]
  | cons x l ih =>
    have hx := h x (by simp)
    have hl : 0 ≤ sumF l := by
      clear ih hs
      have h' : ∀ y ∈ l, 0 ≤ y := fun y hy => h y (by simp [hy])
      clear h
      induction l with
      | nil => exact Int.le_refl _
      | cons y l ih => rw [sumF_cons]; have := ih fun z hz => h' z (by simp [hz]); have := h' y (by simp); omega
    rw [sumF_cons] at hs
    have c1 := chkM_cases x
    have c2 := chkM_cases (n + x)
    rw [sumM, if_neg (by omega), ih (by omega) (fun y hy => h y (by simp [hy])) (by omega), sumF_cons]
    congr 1; omega
theorem sumA_map (l : List Pay) : sumF (l.map (·.a)) = sumA l := by
  induction l with
  | nil => rfl
  | cons x l ih => rw [List.map_cons, sumF_cons, ih]; rfl
theorem paysE_amount {f : Fee} {s : Int} (h : paysE f s = 0) : 0 ≤ f.a ∧ f.a ≤ 1125899906842624 := by
  have := solid_bounds f (pays_eq h).2.1; omega
theorem sumM_pays {f : Fee} {s : Int} (h : paysE f s = 0) {w : List Int} {k : Nat} (hw : w = ((pays f s).take k).map (·.a)) (hk : (pays f s).length ≤ k) : sumM 0 w = (f.a, 0) := by
  have hb := paysE_amount h
  rw [List.take_of_length_le hk] at hw
  have e : sumF w = f.a := by rw [hw, sumA_map, pays_sum h]
  rw [sumM_ok (Int.le_refl _) (fun x hx => by rw [hw] at hx; obtain ⟨p, hp, rfl⟩ := List.mem_map.1 hx; have := pays_mem hp; omega) (by omega), e, Int.zero_add]
theorem amt_shares_bound (f : Fee) (c : Int) : -46161896180549632 ≤ amt c (shares f) ∧ amt c (shares f) ≤ 46161896180549632 := by
  have h := small1 f
  have h1 := small_tot (by decide) (small_pre h) c (shares f).length
  rw [List.take_of_length_le (Nat.le_refl _)] at h1
  rw [shares_amt]; omega
theorem amt_pays_bound {f : Fee} {s : Int} (h : paysE f s = 0) (c : Int) : 0 ≤ amt c (pays f s) ∧ amt c (pays f s) ≤ 1125899906842624 := by
  have h1 := tot_bounds (l := pays f s) c fun p hp => by have := pays_mem hp; omega
  rw [pays_sum h] at h1
  have h2 := paysE_amount h
  rw [amt_tot (pays_inc f s)]; omega
theorem rest_is {f : Fee} {r : Int} {k : Nat} (ir : r = f.a - (profit f).1 - sumA ((shares f).take k)) (hk : (shares f).length ≤ k) : r = restF f := by
  rw [List.take_of_length_le hk] at ir
  unfold restF; omega
theorem rest_ok {f : Fee} {s : Int} (h : paysE f s = 0) : 0 ≤ restF f := rest_nonneg (pays_eq h).2.1
theorem seller_two {f : Fee} {a b : Int} (ha : paysE f a = 0) (hb : paysE f b = 0) : amt a (pays f a) + amt b (pays f a) = amt a (pays f b) + amt b (pays f b) := by
  have h1 := (pays_eq ha).2.2
  have h2 := (pays_eq hb).2.2
  rw [pays_amt ha h1, pays_amt ha h2, pays_amt hb h1, pays_amt hb h2, if_pos rfl, if_pos rfl]
  by_cases e : a = b
  · subst e; omega
  · rw [if_neg e, if_neg (show ¬ b = a from fun h => e h.symm)]; omega
theorem seller_one {f : Fee} {a b c : Int} (ha : paysE f a = 0) (hb : paysE f b = 0) (hc : 0 ≤ c ∧ c < 192) (h1 : c ≠ a) (h2 : c ≠ b) : amt c (pays f a) = amt c (pays f b) := by
  rw [pays_amt ha hc, pays_amt hb hc, if_neg (show ¬ a = c from fun h => h1 h.symm), if_neg (show ¬ b = c from fun h => h2 h.symm)]
theorem solid_is {f : Fee} (hn : f.t.length ≠ 0) : solid f = (partM f.a 50).1 := by rw [solid, if_neg hn]
theorem whole_is {f : Fee} (h : chk f = 0) : (partM f.a 50).2 = 0 ∧ (partM f.a 50).1 = f.a.tdiv 20 ∧ 0 ≤ (partM f.a 50).1 ∧ (partM f.a 50).1 ≤ f.a ∧ f.a ≤ 1125899906842624 := by
  have hb := solid_bounds f h
  rw [partM, if_neg (by omega), if_neg (by omega)]
  refine ⟨rfl, ?_, ?_⟩
  · show (f.a * 50).tdiv 1000 = _
    rw [Int.tdiv_eq_ediv_of_nonneg (by omega), Int.tdiv_eq_ediv_of_nonneg (by omega)]; omega
  · show 0 ≤ (f.a * 50).tdiv 1000 ∧ (f.a * 50).tdiv 1000 ≤ _ ∧ _
    rw [Int.tdiv_eq_ediv_of_nonneg (by omega)]; omega
theorem seasons_bound {f : Fee} (h : chk f = 0) : ∀ x ∈ f.t, 1 ≤ x.s ∧ x.s ≤ 12 := by
  rcases chk_cases f with h2 | ⟨_, _, ht⟩
  · omega
  · intro x hx; have := trOK_all ht x hx; omega
theorem sumL_step {f : Fee} {n : Int} {k : Nat} {x : Train} (iv : sumL n ((wsOf f).drop k) = sumL 0 (wsOf f)) (hx : f.t[k]? = some x) : sumL (n + x.s) ((wsOf f).drop (k + 1)) = sumL 0 (wsOf f) := by
  have : (wsOf f)[k]? = some x.s := by rw [wsOf, List.getElem?_map, hx]; rfl
  rw [← iv, drop_cons this]; rfl
theorem sumL_done {f : Fee} {n : Int} {k : Nat} (iv : sumL n ((wsOf f).drop k) = sumL 0 (wsOf f)) (hk : f.t.length ≤ k) : n = sumL 0 (wsOf f) := sumL_end iv (by rw [wsOf, List.length_map]; exact hk)
theorem share_at {f : Fee} (h : chk f = 0) (hn : f.t.length ≠ 0) {S : Int} (hS : S = sumL 0 (wsOf f)) (hS2 : S ≤ 1000) {j : Nat} {x : Train} (hx : f.t[j]? = some x) :
    (partsF f)[j]? = some (amt x.c (shares f)) ∧ 0 ≤ amt x.c (shares f) ∧ amt x.c (shares f) ≤ 1125899906842625 ∧ amt x.c (shares f) * S - solid f * x.s < S ∧ -S < amt x.c (shares f) * S - solid f * x.s ∧ 0 ≤ amt x.c (shares f) * S ∧ amt x.c (shares f) * S ≤ 1125899906842625000 ∧ 0 ≤ solid f * x.s ∧ solid f * x.s ≤ 1125899906842625000 ∧ 0 < S := by
  have hp := split_pre h hn
  have hj : j < (partsF f).length := by rw [partsF_length]; exact (List.getElem?_eq_some_iff.1 hx).1
  have hP : (partsF f)[j]? = some (partsF f)[j] := List.getElem?_eq_getElem hj
  have hb := splitW_bounds hp _ (List.getElem_mem hj)
  have h0 : ∀ n ∈ partsF f, 0 ≤ n := fun n hn => (splitW_bounds hp n hn).1
  rcases chk_cases f with h2 | ⟨_, _, ht⟩
  · omega
  have ha : amt x.c (shares f) = (partsF f)[j] := by
    rw [shares, if_neg (by omega)]
    exact pickPos_amt (trOK_inc ht) h0 hx hP
  have hw : (wsOf f)[j]? = some x.s := by rw [wsOf, List.getElem?_map, hx]; rfl
  have hnr := split_near hp (show (splitW (solid f) (sumL 0 (wsOf f)) (wsOf f))[j]? = some (partsF f)[j] from hP) hw
  have hs := trOK_all ht x (List.mem_of_getElem? hx)
  have hsol := solid_bounds f h
  have hpos := hp.hs
  subst hS
  rw [ha]
  generalize (partsF f)[j] = n at *
  have e1 : n * sumL 0 (wsOf f) ≤ 1125899906842625 * 1000 := Int.le_trans (Int.mul_le_mul_of_nonneg_right hb.2 (by omega)) (Int.mul_le_mul_of_nonneg_left hS2 (by decide))
  have e2 : solid f * x.s ≤ 1125899906842625 * 1000 := Int.le_trans (Int.mul_le_mul_of_nonneg_right (b := 1125899906842625) (by omega) (by omega)) (Int.mul_le_mul_of_nonneg_left (by omega) (by decide))
  exact ⟨hP, hb.1, hb.2, hnr.1, hnr.2, Int.mul_nonneg hb.1 (by omega), by omega, Int.mul_nonneg hsol.1 (by omega), by omega, hpos⟩
theorem sumF_snoc {l : List Int} {k : Nat} {x : Int} (h : l[k]? = some x) : sumF (l.take (k + 1)) = sumF (l.take k) + x := by
  rw [take_snoc h, sumF_append]; simp [sumF]
theorem parts_done {f : Fee} (h : chk f = 0) (hn : f.t.length ≠ 0) {q : Int} {j : Nat} (iq : q = sumF ((partsF f).take j)) (hj : f.t.length ≤ j) : q = (partM f.a 50).1 := by
  rw [List.take_of_length_le (by rw [partsF_length]; exact hj)] at iq
  rw [iq, ← solid_is hn]; exact split_sum (split_pre h hn)
theorem sumF_take_bound {f : Fee} (h : chk f = 0) (hn : f.t.length ≠ 0) (j : Nat) : 0 ≤ sumF ((partsF f).take j) ∧ sumF ((partsF f).take j) ≤ 45035996273705000 := by
  have hp := split_pre h hn
  have h0 : ∀ l : List Int, (∀ x ∈ l, 0 ≤ x ∧ x ≤ 1125899906842625) → 0 ≤ sumF l ∧ sumF l ≤ l.length * 1125899906842625 := by
    intro l
    induction l with
    | nil => intro _; simp [sumF]
    | cons x l ih =>
      intro hl
      have h1 := ih fun y hy => hl y (by simp [hy])
      have h2 := hl x (by simp)
      rw [sumF_cons]; simp only [List.length_cons, Int.natCast_add, Int.natCast_one, Int.add_mul, Int.one_mul]; omega
  have h1 := h0 ((partsF f).take j) fun x hx => splitW_bounds hp x (List.mem_of_mem_take hx)
  have h2 : ((partsF f).take j).length ≤ 40 := by rw [List.length_take, partsF_length]; have := chk_len h; omega
  omega
def freeF (f : Fee) : Fee := ⟨f.a, f.p, -1, 0, []⟩
theorem free_pays {f : Fee} {s : Int} (h : paysE (freeF f) s = 0) : pays (freeF f) s = if f.a > 0 then [⟨s, f.a⟩] else [] := by
  obtain ⟨e, hc, h1, h2⟩ := pays_eq h
  have hsh : shares (freeF f) = [] := shares_nil rfl
  have hpr : (profit (freeF f)).1 = 0 := profit_none (show (-1 : Int) < 0 by decide)
  have hr : restF (freeF f) = f.a := by unfold restF; rw [hsh, hpr]; simp [sumA, freeF]
  have htot : ∀ c, tot c (allP (freeF f) s) = if s = c then f.a else 0 := fun c => by
    rw [tot_all, hsh, hpr, hr]; simp [tot]
  have ha : 0 ≤ f.a := by have := solid_bounds _ hc; exact this.2.2.1
  have hmem : ∀ q : Pay, q ∈ pays (freeF f) s ↔ q ∈ (if f.a > 0 then [(⟨s, f.a⟩ : Pay)] else []) := by
    intro q
    rw [e]
    constructor
    · intro hq
      have h3 := payList_mem hq
      rw [htot] at h3
      by_cases es : s = q.c
      · rw [if_pos es] at h3
        rw [if_pos (by omega)]
        simp only [List.mem_singleton]
        cases q; simp at *; omega
      · rw [if_neg es] at h3; omega
    · intro hq
      split at hq
      · simp only [List.mem_singleton] at hq
        subst hq
        simp only [payList, List.mem_filterMap, List.mem_range]
        refine ⟨s.toNat, by omega, ?_⟩
        rw [Int.toNat_of_nonneg h1, payOf, htot, if_pos rfl, if_pos (by assumption)]
      · cases hq
  have n1 : (pays (freeF f) s).Nodup := by
    have := pays_inc (freeF f) s
    rw [List.pairwise_map] at this
    exact this.imp fun h e => by subst e; omega
  have n2 : (if f.a > 0 then [(⟨s, f.a⟩ : Pay)] else []).Nodup := by split <;> simp
  have hp := (List.perm_ext_iff_of_nodup n1 n2).2 hmem
  split
  · rename_i hpos
    rw [if_pos hpos] at hp
    exact List.perm_singleton.1 hp
  · rename_i hpos
    rw [if_neg hpos] at hp
    exact List.perm_nil.1 hp
theorem free_amt {f : Fee} {s : Int} (h : paysE (freeF f) s = 0) : amt s (pays (freeF f) s) = f.a ∧ (((pays (freeF f) s).length : Nat) : Int) = (if f.a > 0 then 1 else 0) ∧ 0 ≤ f.a := by
  have ha : 0 ≤ f.a := (paysE_amount h).1
  rw [free_pays h]
  split
  · simp [amt, ha]
  · simp [amt]; omega
theorem profit_two {f : Fee} : ((profit f).2 = 0 → chk f = 0) ∧ ((profit f).2 ≠ 0 → (profit f).1 = 0) := by
  by_cases hc : chk f = 0
  · have := profit_err hc
    exact ⟨fun _ => hc, fun h => absurd this h⟩
  · unfold profit
    rw [if_pos hc]
    exact ⟨fun h => absurd h hc, fun _ => rfl⟩
theorem profit_zero {f : Fee} (hc : chk f = 0) : (f.m < 0 ∨ f.s = 0 ∨ f.a ≤ f.p → (profit f).1 = 0) ∧ (f.a > f.p → (profit f).1 ≤ f.a - f.p) := by
  have hb := solid_bounds f hc
  unfold profit
  rw [if_neg (by omega)]
  split
  · exact ⟨fun _ => rfl, fun _ => by dsimp only; omega⟩
  · rename_i h2
    rw [partM, if_neg (by omega), if_neg (by omega)]
    show (_ → ((f.a - solid f - f.p) * f.s).tdiv 1000 = 0) ∧ (_ → ((f.a - solid f - f.p) * f.s).tdiv 1000 ≤ f.a - f.p)
    have h3 : 0 ≤ (f.a - solid f - f.p) * f.s := Int.mul_nonneg (by omega) (by omega)
    have h4 : (f.a - solid f - f.p) * f.s ≤ (f.a - solid f - f.p) * 1000 := Int.mul_le_mul_of_nonneg_left (by omega) (by omega)
    rw [Int.tdiv_eq_ediv_of_nonneg h3]
    refine ⟨fun h => ?_, fun h => by omega⟩
    rcases h with h | h | h
    · omega
    · rw [h]; simp
    · omega
def paysX (f : Fee) (l : List Pay) : Bool := decide (pays f 3 = l) && (paysE f 3 == 0)
theorem len_zero {l : List Pay} (h : l = []) : l.length = 0 := by rw [h]; rfl
end Go.Proofs.Ythpjlkpkhlkhbaa

/-
  Walks at the data level, printed by gen.py: what each Go function returns, for data that reads as said. Conditions: those of each theorem.
-/
namespace Go.Proofs.Ythpjlkpkhlkhbaa
open Go.DL
set_option maxRecDepth 100000
set_option linter.unusedVariables false
set_option linter.unusedSimpArgs false
theorem ret_sumM (l : List Int) (hl : l.length ≤ 140737488355328) : Ret Try.prog 23 [(.sl 1 (l.map encI))] (.tup [(I (sumM 0 l).1), (I (sumM 0 l).2)]) := by
  refine Ret.of_T Try.func23 (by kernel_rfl) rfl ?_
  refine T_turn [] [0] [] (mk 27 [(0, (dt (.sl 1 (l.map encI))))] []) (by kernel_rfl) ?_
  refine T_reg [] [0, 2] [] (mk 27 [(0, (dt (.sl 1 (l.map encI)))), (2, (dt (I 0)))] []) (True ∧ True ∧ True ∧ True ∧ True) (by kernel_rfl) ⟨trivial, trivial, trivial, trivial, trivial⟩ ?_
  refine T_seq ?_
  refine T_reg [{}, { d := some (I ((l.length : Nat) : Int)) }] [2, 6, 7, 8] [] (mk 27 [(2, (dt (I 0))), (6, (dt (.sl 1 (l.map encI)))), (7, (dt (I ((l.length : Nat) : Int)))), (8, (dt (I 0)))] []) (True ∧ True ∧ True ∧ (True ∧ D.int .i64 ((l.map encI).length : Int) = (I ((l.length : Nat) : Int))) ∧ True ∧ True ∧ True) (by kernel_rfl) ⟨trivial, trivial, trivial, ⟨trivial, by rw [List.length_map]⟩, trivial, trivial, trivial⟩ ?_
  refine T_block ?_
  refine T_turn [] [2, 6, 7, 8] [] ((fun ((k, n) : Nat × Int) => (mk 27 [(2, (dt (I n))), (6, (dt (.sl 1 (l.map encI)))), (7, (dt (I ((l.length : Nat) : Int)))), (8, (dt (I ((k : Nat) : Int))))] [])) (0, 0)) (by kernel_rfl) (T_loop (α := Nat × Int) (fun ((k, n) : Nat × Int) => (mk 27 [(2, (dt (I n))), (6, (dt (.sl 1 (l.map encI)))), (7, (dt (I ((l.length : Nat) : Int)))), (8, (dt (I ((k : Nat) : Int))))] [])) (fun ((k, n) : Nat × Int) => (k ≤ (l).length) ∧ (sumM n (l.drop k) = sumM 0 l) ∧ (-1125899906842624 ≤ n ∧ n ≤ 1125899906842624) ∧ True) (fun ((k, n) : Nat × Int) => (l).length - k) (0, 0) ⟨Nat.zero_le _, rfl, ⟨by decide, by decide⟩, trivial⟩ ?_)
  rintro ⟨k, n⟩ ⟨ik, iv, in1, _⟩
  refine T_reg [] [2, 6, 7, 8, 9] [] (mk 27 [(2, (dt (I n))), (6, (dt (.sl 1 (l.map encI)))), (7, (dt (I ((l.length : Nat) : Int)))), (8, (dt (I ((k : Nat) : Int)))), (9, (dt (B (decide (((k : Nat) : Int) < ((l.length : Nat) : Int))))))] []) (True ∧ True ∧ True) (by kernel_rfl) ⟨trivial, trivial, trivial⟩ ?_
  refine T_seq ?_
  refine T_cond (decide (((k : Nat) : Int) < ((l.length : Nat) : Int))) (by kernel_rfl) (fun h1 => ?_) (fun h1 => ?_)
  · skip
    have g2 : ((k : Nat) : Int) < ((l.length : Nat) : Int) := of_decide_eq_true (h1)
    refine T_skip ?_
    refine T_seq ?_
    refine T_block ?_
    have lt3 : k < (l).length := by first | omega | (simp only [List.length_set, List.length_map, List.length_append, List.length_cons, List.length_nil] at *; omega)
    obtain ⟨x4, hx5⟩ : ∃ x, (l)[k]? = some x := ⟨_, List.getElem?_eq_getElem lt3⟩
    have hcx := chkM_cases x4
    have hcn := chkM_cases (n + x4)
    refine T_reg [{ d := some (I x4) }] [2, 5, 6, 7, 8] [] (mk 27 [(2, (dt (I n))), (5, (dt (I x4))), (6, (dt (.sl 1 (l.map encI)))), (7, (dt (I ((l.length : Nat) : Int)))), (8, (dt (I ((k : Nat) : Int))))] []) (True ∧ (0 ≤ ((k : Nat) : Int) ∧ (l.map encI)[k]? = some (I x4)) ∧ True ∧ True ∧ True ∧ True ∧ True) (by kernel_rfl) ⟨trivial, ⟨by omega, by rw [List.getElem?_map, hx5]; rfl⟩, trivial, trivial, trivial, trivial, trivial⟩ ?_
    refine T_seq ?_
    rcases Bool.eq_false_or_eq_true ((chkM x4) != 0) with h6 | h6
    · skip
      have g7 : (chkM x4) ≠ 0 := bne_iff_ne.1 (h6)
      refine T_reg [{}, { d := some (I (chkM x4)) }, {}, {}, { g := false }, { g := false }, { g := false }, { g := false }, { g := false }, { d := some (B true) }] [2, 5, 6, 7, 8, 21] [] (mk 27 [(2, (dt (I n))), (5, (dt (I x4))), (6, (dt (.sl 1 (l.map encI)))), (7, (dt (I ((l.length : Nat) : Int)))), (8, (dt (I ((k : Nat) : Int)))), (21, (dt (B true)))] []) (True ∧ True ∧ True ∧ (Ret Try.prog 35 [(I x4)] (I (chkM x4))) ∧ True ∧ True ∧ True ∧ True ∧ ((((chkM x4) != 0) == false) = false) ∧ ((((chkM x4) != 0) == false) = false) ∧ ((((chkM x4) != 0) == false) = false) ∧ ((((chkM x4) != 0) == false) = false) ∧ ((((chkM x4) != 0) == false) = false) ∧ True ∧ (((chkM x4) != 0) = true) ∧ True) (by kernel_rfl) ⟨trivial, trivial, trivial, (ret_chkM _), trivial, trivial, trivial, trivial, (by rw [show ((chkM x4) != 0) = true from h6]; rfl), (by rw [show ((chkM x4) != 0) = true from h6]; rfl), (by rw [show ((chkM x4) != 0) = true from h6]; rfl), (by rw [show ((chkM x4) != 0) = true from h6]; rfl), (by rw [show ((chkM x4) != 0) = true from h6]; rfl), trivial, h6, trivial⟩ ?_
      refine T_cond true (by kernel_rfl) (fun _ => ?_) (fun h => absurd (h.symm.trans rfl) (by decide))
      refine T_reg [] [2, 3] [] (mk 27 [(2, (dt (I 0))), (3, (dt (I 50)))] []) (True ∧ True ∧ True ∧ True ∧ True) (by kernel_rfl) ⟨trivial, trivial, trivial, trivial, trivial⟩ ?_
      refine T_ret ?_
      exact ret_here [(dt (I 0)), (dt (I 50))] (by kernel_rfl) ⟨(.inl (congrArg I (by first | (rw [← iv, drop_cons (by assumption), sumM, if_pos (by omega)]; done) | (rw [← iv, List.drop_eq_nil_of_le (by omega)]; rfl; done) : 0 = (sumM 0 l).1))), (.inl (congrArg I (by first | (rw [← iv, drop_cons (by assumption), sumM, if_pos (by omega)]; done) | (rw [← iv, List.drop_eq_nil_of_le (by omega)]; rfl; done) : 50 = (sumM 0 l).2))), trivial⟩
    · skip
      have g8 : (chkM x4) = 0 := bne_f (h6)
      refine T_reg [{}, { d := some (I (chkM x4)) }, {}, {}, {}, {}, { d := some (I (n + x4)) }, { d := some (I (chkM (n + x4))) }, {}, { d := some (B false) }] [2, 5, 6, 7, 8, 21] [] (mk 27 [(2, (dt (I n))), (5, (dt (I x4))), (6, (dt (.sl 1 (l.map encI)))), (7, (dt (I ((l.length : Nat) : Int)))), (8, (dt (I ((k : Nat) : Int)))), (21, (dt (B ((chkM (n + x4)) != 0))))] []) (True ∧ True ∧ True ∧ (Ret Try.prog 35 [(I x4)] (I (chkM x4))) ∧ True ∧ True ∧ True ∧ True ∧ ((((chkM x4) != 0) == false) = true) ∧ True ∧ ((((chkM x4) != 0) == false) = true) ∧ True ∧ ((((chkM x4) != 0) == false) = true) ∧ (IntKind.i64.wrap (n + x4) = (n + x4)) ∧ ((((chkM x4) != 0) == false) = true) ∧ (Ret Try.prog 35 [(I (n + x4))] (I (chkM (n + x4)))) ∧ ((((chkM x4) != 0) == false) = true) ∧ True ∧ True ∧ (((chkM x4) != 0) = false) ∧ True) (by kernel_rfl) ⟨trivial, trivial, trivial, (ret_chkM _), trivial, trivial, trivial, trivial, (by rw [show ((chkM x4) != 0) = false from h6]; rfl), trivial, (by rw [show ((chkM x4) != 0) = false from h6]; rfl), trivial, (by rw [show ((chkM x4) != 0) = false from h6]; rfl), (i64_wrap (by omega) (by omega)), (by rw [show ((chkM x4) != 0) = false from h6]; rfl), (ret_chkM _), (by rw [show ((chkM x4) != 0) = false from h6]; rfl), trivial, trivial, h6, trivial⟩ ?_
      refine T_cond ((chkM (n + x4)) != 0) (by kernel_rfl) (fun h9 => ?_) (fun h9 => ?_)
      · skip
        have g10 : (chkM (n + x4)) ≠ 0 := bne_iff_ne.1 (h9)
        refine T_reg [] [2, 3] [] (mk 27 [(2, (dt (I 0))), (3, (dt (I 50)))] []) (True ∧ True ∧ True ∧ True ∧ True) (by kernel_rfl) ⟨trivial, trivial, trivial, trivial, trivial⟩ ?_
        refine T_ret ?_
        exact ret_here [(dt (I 0)), (dt (I 50))] (by kernel_rfl) ⟨(.inl (congrArg I (by first | (rw [← iv, drop_cons (by assumption), sumM, if_pos (by omega)]; done) | (rw [← iv, List.drop_eq_nil_of_le (by omega)]; rfl; done) : 0 = (sumM 0 l).1))), (.inl (congrArg I (by first | (rw [← iv, drop_cons (by assumption), sumM, if_pos (by omega)]; done) | (rw [← iv, List.drop_eq_nil_of_le (by omega)]; rfl; done) : 50 = (sumM 0 l).2))), trivial⟩
      · skip
        have g11 : (chkM (n + x4)) = 0 := bne_f (h9)
        refine T_skip ?_
        refine T_regE [{}, {}, { d := some (I (n + x4)) }] (mk 27 [(2, (dt (I (n + x4)))), (5, (dt (I x4))), (6, (dt (.sl 1 (l.map encI)))), (7, (dt (I ((l.length : Nat) : Int)))), (8, (dt (I ((k : Nat) : Int)))), (21, (dt (B ((chkM (n + x4)) != 0)))), (22, (dt (I n))), (23, (dt (I x4))), (24, (dt (I (n + x4))))] []) (True ∧ True ∧ True ∧ True ∧ True ∧ (IntKind.i64.wrap (n + x4) = (n + x4)) ∧ True ∧ True ∧ True) (by kernel_rfl) ⟨trivial, trivial, trivial, trivial, trivial, (i64_wrap (by omega) (by omega)), trivial, trivial, trivial⟩ ?_
        refine T_regE [{ d := some (I ((k + 1 : Nat) : Int)) }] (mk 27 [(2, (dt (I (n + x4)))), (5, (dt (I x4))), (6, (dt (.sl 1 (l.map encI)))), (7, (dt (I ((l.length : Nat) : Int)))), (8, (dt (I ((k + 1 : Nat) : Int)))), (21, (dt (B ((chkM (n + x4)) != 0)))), (22, (dt (I n))), (23, (dt (I x4))), (24, (dt (I (n + x4)))), (25, (dt (I ((k + 1 : Nat) : Int))))] []) (True ∧ (IntKind.i64.wrap (((k : Nat) : Int) + 1) = ((k + 1 : Nat) : Int)) ∧ True ∧ True ∧ True) (by kernel_rfl) ⟨trivial, (by rw [i64_wrap (by omega) (by omega)]; omega), trivial, trivial, trivial⟩ ?_
        refine Exists.intro (k + 1, (n + x4)) ⟨⟨by omega, by rw [← iv, drop_cons hx5, sumM, if_neg (by omega)], by have := chkM_cases (n + x4); omega, trivial⟩, by first | omega | (dsimp only; omega), le_turn [] [2, 6, 7, 8] [] (by kernel_rfl)⟩
  · skip
    have g12 : ¬ (((k : Nat) : Int) < ((l.length : Nat) : Int)) := of_decide_eq_false (h1)
    refine T_exit ?_
    refine T_reg [] [2, 3] [] (mk 27 [(2, (dt (I n))), (3, (dt (I 0)))] []) (True ∧ True ∧ True ∧ True ∧ True ∧ True ∧ True) (by kernel_rfl) ⟨trivial, trivial, trivial, trivial, trivial, trivial, trivial⟩ ?_
    refine T_ret ?_
    exact ret_here [(dt (I n)), (dt (I 0))] (by kernel_rfl) ⟨(.inl (congrArg I (by first | (rw [← iv, drop_cons (by assumption), sumM, if_pos (by omega)]; done) | (rw [← iv, List.drop_eq_nil_of_le (by omega)]; rfl; done) : n = (sumM 0 l).1))), (.inl (congrArg I (by first | (rw [← iv, drop_cons (by assumption), sumM, if_pos (by omega)]; done) | (rw [← iv, List.drop_eq_nil_of_le (by omega)]; rfl; done) : 0 = (sumM 0 l).2))), trivial⟩

theorem ret_paysX (f : Fee) (l : List Pay) (ht : f.t.length ≤ 140737488355328) (hl : l.length ≤ 140737488355328) : Ret Try.prog 24 [(.agg [(I f.a), (I f.p), (I f.m), (I f.s), (.sl 2 (f.t.map encTrain))]), (.sl 2 (l.map encPay))] (B (paysX f l)) := by
  refine Ret.of_T Try.func24 (by kernel_rfl) rfl ?_
  refine T_turn [] [0, 1] [] (mk 19 [(0, (.agg [(.dat (I f.a)), (.dat (I f.p)), (.dat (I f.m)), (.dat (I f.s)), (.dat (.sl 2 (f.t.map encTrain)))])), (1, (dt (.sl 2 (l.map encPay))))] []) (by kernel_rfl) ?_
  refine T_reg [] [1, 2] [] (mk 19 [(1, (dt (.sl 2 (l.map encPay)))), (2, (.one (.ref 2 0)))] [(2, (.var [(.dat (I f.a)), (.dat (I f.p)), (.dat (I f.m)), (.dat (I f.s)), (.dat (.sl 2 (f.t.map encTrain)))]))]) (True ∧ True ∧ True ∧ True ∧ True) (by kernel_rfl) ⟨trivial, trivial, trivial, trivial, trivial⟩ ?_
  refine T_reg [{}, { d := some (.tup [(.sl 2 ((pays f 3).map encPay)), (I (paysE f 3))]) }] [1, 5, 6] [2] (mk 19 [(1, (dt (.sl 2 (l.map encPay)))), (5, (dt (.sl 2 ((pays f 3).map encPay)))), (6, (dt (I (paysE f 3))))] []) (True ∧ True ∧ True ∧ (Ret Try.prog 19 [(.agg [(I f.a), (I f.p), (I f.m), (I f.s), (.sl 2 (f.t.map encTrain))]), (I 3)] (.tup [(.sl 2 ((pays f 3).map encPay)), (I (paysE f 3))])) ∧ True ∧ True ∧ True ∧ True ∧ True ∧ True ∧ True ∧ True ∧ True ∧ True ∧ True) (by kernel_rfl) ⟨trivial, trivial, trivial, (ret_pays f 3 (by first | assumption | (simp; done) | decide)), trivial, trivial, trivial, trivial, trivial, trivial, trivial, trivial, trivial, trivial, trivial⟩ ?_
  rcases Bool.eq_false_or_eq_true (decide ((pays f 3) = l)) with h1 | h1
  · skip
    have g2 : ((pays f 3) = l) := of_decide_eq_true (h1)
    refine T_reg [{}, {}, { d := some (B (decide ((pays f 3) = l))) }, {}, {}, {}, { d := some (B true) }] [4] [] (mk 19 [(4, (dt (B ((paysE f 3) == 0))))] []) (True ∧ True ∧ True ∧ True ∧ True ∧ (Ret Try.prog 18 [(.sl 2 ((pays f 3).map encPay)), (.sl 2 (l.map encPay))] (B (decide ((pays f 3) = l)))) ∧ True ∧ True ∧ (((decide ((pays f 3) = l)) == true) = true) ∧ True ∧ (((decide ((pays f 3) = l)) == true) = true) ∧ True ∧ True ∧ ((decide ((pays f 3) = l)) = true) ∧ True ∧ True ∧ True) (by kernel_rfl) ⟨trivial, trivial, trivial, trivial, trivial, (ret_same (pays f 3) l (by have := pays_len f 3; omega) (by assumption)), trivial, trivial, (by rw [show (decide ((pays f 3) = l)) = true from h1]; rfl), trivial, (by rw [show (decide ((pays f 3) = l)) = true from h1]; rfl), trivial, trivial, h1, trivial, trivial, trivial⟩ ?_
    refine T_ret ?_
    exact ret_here [(dt (B ((paysE f 3) == 0)))] (by kernel_rfl) (.inl (congrArg B (by unfold paysX; simp_all : ((paysE f 3) == 0) = (paysX f l))))
  · skip
    have g3 : ¬ ((pays f 3) = l) := of_decide_eq_false (h1)
    refine T_reg [{}, {}, { d := some (B (decide ((pays f 3) = l))) }, {}, { g := false }, { g := false }, { d := some (B false) }] [4] [] (mk 19 [(4, (dt (B false)))] []) (True ∧ True ∧ True ∧ True ∧ True ∧ (Ret Try.prog 18 [(.sl 2 ((pays f 3).map encPay)), (.sl 2 (l.map encPay))] (B (decide ((pays f 3) = l)))) ∧ True ∧ True ∧ (((decide ((pays f 3) = l)) == true) = false) ∧ (((decide ((pays f 3) = l)) == true) = false) ∧ True ∧ ((decide ((pays f 3) = l)) = false) ∧ True ∧ True ∧ True) (by kernel_rfl) ⟨trivial, trivial, trivial, trivial, trivial, (ret_same (pays f 3) l (by have := pays_len f 3; omega) (by assumption)), trivial, trivial, (by rw [show (decide ((pays f 3) = l)) = false from h1]; rfl), (by rw [show (decide ((pays f 3) = l)) = false from h1]; rfl), trivial, h1, trivial, trivial, trivial⟩ ?_
    refine T_ret ?_
    exact ret_here [(dt (B false))] (by kernel_rfl) (.inl (congrArg B (by unfold paysX; simp_all : false = (paysX f l))))

theorem ret_sane  : Ret Try.prog 10 [] (B true) := by
  refine Ret.of_T Try.func10 (by kernel_rfl) rfl ?_
  refine T_turn [] [] [] (mk 84 [] []) (by kernel_rfl) ?_
  refine T_reg [] [] [] (mk 84 [] []) (True ∧ True ∧ True) (by kernel_rfl) ⟨trivial, trivial, trivial⟩ ?_
  refine T_reg [] [1] [] (mk 84 [(1, (.one (.ref 1 0)))] [(1, (.var [(.dat (I 0)), (.dat (I 0)), (.dat (I (-1))), (.dat (I 0)), (.dat nilS)]))]) (True ∧ True ∧ True ∧ True ∧ True ∧ True ∧ True) (by kernel_rfl) ⟨trivial, trivial, trivial, trivial, trivial, trivial, trivial⟩ ?_
  refine T_reg [] [1, 2] [] (mk 84 [(1, (.one (.ref 1 0))), (2, (.one (.ref 2 0)))] [(2, (.var [(.dat (I 100)), (.dat (I 0)), (.dat (I (-1))), (.dat (I 0)), (.own 11)])), (11, (.row 43 2 ([(⟨3, 1⟩ : Train), (⟨5, 2⟩ : Train)].map encTrain))), (1, (.var [(.dat (I 0)), (.dat (I 0)), (.dat (I (-1))), (.dat (I 0)), (.dat nilS)]))]) (True ∧ True ∧ True ∧ True ∧ True ∧ (dfill (fun i => some (i * 2, 2)) (List.replicate (2 * 2) .junk) [(0, [(.dat (I 3)), (.dat (I 1))]), (1, [(.dat (I 5)), (.dat (I 2))])] = some ((flat ([(⟨3, 1⟩ : Train), (⟨5, 2⟩ : Train)].map encTrain)).map .dat)) ∧ True ∧ True ∧ True ∧ True ∧ True ∧ True ∧ True) (by kernel_rfl) ⟨trivial, trivial, trivial, trivial, trivial, rfl, trivial, trivial, trivial, trivial, trivial, trivial, trivial⟩ ?_
  refine T_reg [] [1, 2, 3] [] (mk 84 [(1, (.one (.ref 1 0))), (2, (.one (.ref 2 0))), (3, (.one (.ref 3 0)))] [(3, (.var [(.dat (I 100000)), (.dat (I 45000)), (.dat (I 7)), (.dat (I 200)), (.own 14)])), (14, (.row 43 2 ([(⟨9, 4⟩ : Train)].map encTrain))), (2, (.var [(.dat (I 100)), (.dat (I 0)), (.dat (I (-1))), (.dat (I 0)), (.own 11)])), (11, (.row 43 2 ([(⟨3, 1⟩ : Train), (⟨5, 2⟩ : Train)].map encTrain))), (1, (.var [(.dat (I 0)), (.dat (I 0)), (.dat (I (-1))), (.dat (I 0)), (.dat nilS)]))]) (True ∧ True ∧ True ∧ (dfill (fun i => some (i * 2, 2)) (List.replicate (1 * 2) .junk) [(0, [(.dat (I 9)), (.dat (I 4))])] = some ((flat ([(⟨9, 4⟩ : Train)].map encTrain)).map .dat)) ∧ True ∧ True ∧ True ∧ True ∧ True ∧ True ∧ True) (by kernel_rfl) ⟨trivial, trivial, trivial, rfl, trivial, trivial, trivial, trivial, trivial, trivial, trivial⟩ ?_
  refine T_seq ?_
  refine T_reg [{}, { d := some (I 0) }, {}, {}, {}, { d := some (I 380) }, {}, { d := some (B false) }, {}, {}, { d := some (B true) }, {}, { d := some (B false) }, {}, {}, {}, {}, { d := some (B true) }, {}, { d := some (B false) }, {}, {}, {}, {}, {}, { d := some (B true) }, {}, { d := some (B false) }] [3, 43] [40, 32, 2, 11, 1] (mk 84 [(3, (.one (.ref 3 0))), (43, (dt (B false)))] [(3, (.var [(.dat (I 100000)), (.dat (I 45000)), (.dat (I 7)), (.dat (I 200)), (.own 14)])), (14, (.row 43 2 ([(⟨9, 4⟩ : Train)].map encTrain)))]) (True ∧ True ∧ True ∧ (Ret Try.prog 16 [(.agg [(I 0), (I 0), (I (-1)), (I 0), nilS])] (I 0)) ∧ True ∧ True ∧ True ∧ True ∧ ((false == false) = true) ∧ True ∧ ((false == false) = true) ∧ (Ret Try.prog 16 [(.agg [(I 0), (I 0), (I (-1)), (I 1), nilS])] (I 380)) ∧ ((false == false) = true) ∧ True ∧ True ∧ (false = false) ∧ True ∧ True ∧ ((false == false) = true) ∧ True ∧ ((false == false) = true) ∧ (Ret Try.prog 24 [(.agg [(I 0), (I 0), (I (-1)), (I 0), nilS]), nilS] (B true)) ∧ ((false == false) = true) ∧ True ∧ True ∧ (false = false) ∧ True ∧ True ∧ ((false == false) = true) ∧ True ∧ ((false == false) = true) ∧ True ∧ ((false == false) = true) ∧ (dfill (fun i => some (i * 2, 2)) (List.replicate (1 * 2) .junk) [(0, [(.dat (I 3)), (.dat (I 100))])] = some ((flat ([(⟨3, 100⟩ : Pay)].map encPay)).map .dat)) ∧ ((false == false) = true) ∧ (Ret Try.prog 24 [(.agg [(I 100), (I 0), (I (-1)), (I 0), nilS]), (.sl 2 ([(⟨3, 100⟩ : Pay)].map encPay))] (B true)) ∧ ((false == false) = true) ∧ True ∧ True ∧ (false = false) ∧ True ∧ True ∧ ((false == false) = true) ∧ True ∧ ((false == false) = true) ∧ True ∧ ((false == false) = true) ∧ True ∧ ((false == false) = true) ∧ (dfill (fun i => some (i * 2, 2)) (List.replicate (2 * 2) .junk) [(0, [(.dat (I 3)), (.dat (I 97))]), (1, [(.dat (I 5)), (.dat (I 3))])] = some ((flat ([(⟨3, 97⟩ : Pay), (⟨5, 3⟩ : Pay)].map encPay)).map .dat)) ∧ ((false == false) = true) ∧ (Ret Try.prog 24 [(.agg [(I 100), (I 0), (I (-1)), (I 0), (.sl 2 ([(⟨3, 1⟩ : Train), (⟨5, 2⟩ : Train)].map encTrain))]), (.sl 2 ([(⟨3, 97⟩ : Pay), (⟨5, 3⟩ : Pay)].map encPay))] (B true)) ∧ ((false == false) = true) ∧ True ∧ True ∧ (false = false) ∧ True) (by kernel_rfl) ⟨trivial, trivial, trivial, (Ret.weak (Ret.to (ret_chk (⟨0, 0, (-1), 0, ([] : List Train)⟩ : Fee) (by first | assumption | (simp; done) | decide)) (by rw [show chk (⟨0, 0, (-1), 0, ([] : List Train)⟩ : Fee) = 0 from by kernel_rfl])) ⟨(Weak.agg ⟨Weak.refl _, Weak.refl _, Weak.refl _, Weak.refl _, Weak.nil 2, trivial⟩), trivial⟩), trivial, trivial, trivial, trivial, (by rw [show false = false from rfl]; rfl), trivial, (by rw [show false = false from rfl]; rfl), (Ret.weak (Ret.to (ret_chk (⟨0, 0, (-1), 1, ([] : List Train)⟩ : Fee) (by first | assumption | (simp; done) | decide)) (by rw [show chk (⟨0, 0, (-1), 1, ([] : List Train)⟩ : Fee) = 380 from by kernel_rfl])) ⟨(Weak.agg ⟨Weak.refl _, Weak.refl _, Weak.refl _, Weak.refl _, Weak.nil 2, trivial⟩), trivial⟩), (by rw [show false = false from rfl]; rfl), trivial, trivial, rfl, trivial, trivial, (by rw [show false = false from rfl]; rfl), trivial, (by rw [show false = false from rfl]; rfl), (Ret.weak (Ret.to (ret_paysX (⟨0, 0, (-1), 0, ([] : List Train)⟩ : Fee) ([] : List Pay) (by first | assumption | (simp; done) | decide) (by first | assumption | (simp; done) | decide)) (by rw [show paysX (⟨0, 0, (-1), 0, ([] : List Train)⟩ : Fee) ([] : List Pay) = true from by kernel_rfl])) ⟨(Weak.agg ⟨Weak.refl _, Weak.refl _, Weak.refl _, Weak.refl _, Weak.nil 2, trivial⟩), Weak.nil 2, trivial⟩), (by rw [show false = false from rfl]; rfl), trivial, trivial, rfl, trivial, trivial, (by rw [show false = false from rfl]; rfl), trivial, (by rw [show false = false from rfl]; rfl), trivial, (by rw [show false = false from rfl]; rfl), rfl, (by rw [show false = false from rfl]; rfl), (Ret.weak (Ret.to (ret_paysX (⟨100, 0, (-1), 0, ([] : List Train)⟩ : Fee) [(⟨3, 100⟩ : Pay)] (by first | assumption | (simp; done) | decide) (by first | assumption | (simp; done) | decide)) (by rw [show paysX (⟨100, 0, (-1), 0, ([] : List Train)⟩ : Fee) [(⟨3, 100⟩ : Pay)] = true from by kernel_rfl])) ⟨(Weak.agg ⟨Weak.refl _, Weak.refl _, Weak.refl _, Weak.refl _, Weak.nil 2, trivial⟩), Weak.refl _, trivial⟩), (by rw [show false = false from rfl]; rfl), trivial, trivial, rfl, trivial, trivial, (by rw [show false = false from rfl]; rfl), trivial, (by rw [show false = false from rfl]; rfl), trivial, (by rw [show false = false from rfl]; rfl), trivial, (by rw [show false = false from rfl]; rfl), rfl, (by rw [show false = false from rfl]; rfl), (Ret.to (ret_paysX (⟨100, 0, (-1), 0, [(⟨3, 1⟩ : Train), (⟨5, 2⟩ : Train)]⟩ : Fee) [(⟨3, 97⟩ : Pay), (⟨5, 3⟩ : Pay)] (by first | assumption | (simp; done) | decide) (by first | assumption | (simp; done) | decide)) (by rw [show paysX (⟨100, 0, (-1), 0, [(⟨3, 1⟩ : Train), (⟨5, 2⟩ : Train)]⟩ : Fee) [(⟨3, 97⟩ : Pay), (⟨5, 3⟩ : Pay)] = true from by kernel_rfl])), (by rw [show false = false from rfl]; rfl), trivial, trivial, rfl, trivial⟩ ?_
  refine T_cond false (by kernel_rfl) (fun h => absurd (h.symm.trans rfl) (by decide)) (fun _ => ?_)
  refine T_skip ?_
  refine T_seq (T_parts ?_)
  refine TL_part 1 [] (mk 84 [(3, (.one (.ref 3 0))), (43, (dt (B false))), (45, (.agg [(.dat (I 100000)), (.dat (I 45000)), (.dat (I 7)), (.dat (I 200)), (.own 14)]))] [(3, (.var [(.dat (I 100000)), (.dat (I 45000)), (.dat (I 7)), (.dat (I 200)), (.own 14)])), (14, (.row 43 2 ([(⟨9, 4⟩ : Train)].map encTrain)))]) (True ∧ True ∧ True) (by kernel_rfl) ⟨trivial, trivial, trivial⟩ rfl ?_
  refine TL_turn [14] [3, 43, 45] [] (mk 84 [(3, (.one (.ref 3 0))), (43, (dt (B false))), (45, (.agg [(.dat (I 100000)), (.dat (I 45000)), (.dat (I 7)), (.dat (I 200)), (.dat (.sl 2 ([(⟨9, 4⟩ : Train)].map encTrain)))]))] [(3, (.var [(.dat (I 100000)), (.dat (I 45000)), (.dat (I 7)), (.dat (I 200)), (.dat (.sl 2 ([(⟨9, 4⟩ : Train)].map encTrain)))]))]) (by kernel_rfl) ?_
  refine TL_part 6 [{ d := some (.tup [(.sl 2 ([(⟨9, 5000⟩ : Pay)].map encPay)), (I 0)]) }] (mk 84 [(3, (.one (.ref 3 0))), (4, (dt (.sl 2 ([(⟨9, 5000⟩ : Pay)].map encPay)))), (5, (dt (I 0))), (43, (dt (B false))), (44, (.tup [(false, [(.dat (.sl 2 ([(⟨9, 5000⟩ : Pay)].map encPay)))]), (false, [(.dat (I 0))])])), (45, (.agg [(.dat (I 100000)), (.dat (I 45000)), (.dat (I 7)), (.dat (I 200)), (.dat (.sl 2 ([(⟨9, 4⟩ : Train)].map encTrain)))])), (46, (.tup [(false, [(.dat (.sl 2 ([(⟨9, 5000⟩ : Pay)].map encPay)))]), (false, [(.dat (I 0))])])), (47, (dt (.sl 2 ([(⟨9, 5000⟩ : Pay)].map encPay)))), (48, (dt (I 0)))] [(3, (.var [(.dat (I 100000)), (.dat (I 45000)), (.dat (I 7)), (.dat (I 200)), (.dat (.sl 2 ([(⟨9, 4⟩ : Train)].map encTrain)))]))]) (True ∧ (Ret Try.prog 12 [(.agg [(I 100000), (I 45000), (I 7), (I 200), (.sl 2 ([(⟨9, 4⟩ : Train)].map encTrain))])] (.tup [(.sl 2 ([(⟨9, 5000⟩ : Pay)].map encPay)), (I 0)])) ∧ True ∧ True ∧ True ∧ True ∧ True ∧ True ∧ True ∧ True ∧ True ∧ True ∧ True) (by kernel_rfl) ⟨trivial, (Ret.to (ret_shares (⟨100000, 45000, 7, 200, [(⟨9, 4⟩ : Train)]⟩ : Fee) (by first | assumption | (simp; done) | decide)) (by rw [show shares (⟨100000, 45000, 7, 200, [(⟨9, 4⟩ : Train)]⟩ : Fee) = [(⟨9, 5000⟩ : Pay)] from by kernel_rfl, show chk (⟨100000, 45000, 7, 200, [(⟨9, 4⟩ : Train)]⟩ : Fee) = 0 from by kernel_rfl])), trivial, trivial, trivial, trivial, trivial, trivial, trivial, trivial, trivial, trivial, trivial⟩ rfl ?_
  refine TL_nilQ ?_
  refine T_turn [] [3, 4, 5] [] (mk 84 [(3, (.one (.ref 3 0))), (4, (dt (.sl 2 ([(⟨9, 5000⟩ : Pay)].map encPay)))), (5, (dt (I 0)))] [(3, (.var [(.dat (I 100000)), (.dat (I 45000)), (.dat (I 7)), (.dat (I 200)), (.dat (.sl 2 ([(⟨9, 4⟩ : Train)].map encTrain)))]))]) (by kernel_rfl) ?_
  refine T_reg [{}, { d := some (.tup [(I 10000), (I 0)]) }] [3, 4, 5, 6, 7] [] (mk 84 [(3, (.one (.ref 3 0))), (4, (dt (.sl 2 ([(⟨9, 5000⟩ : Pay)].map encPay)))), (5, (dt (I 0))), (6, (dt (I 10000))), (7, (dt (I 0)))] [(3, (.var [(.dat (I 100000)), (.dat (I 45000)), (.dat (I 7)), (.dat (I 200)), (.dat (.sl 2 ([(⟨9, 4⟩ : Train)].map encTrain)))]))]) (True ∧ True ∧ True ∧ (Ret Try.prog 14 [(.agg [(I 100000), (I 45000), (I 7), (I 200), (.sl 2 ([(⟨9, 4⟩ : Train)].map encTrain))])] (.tup [(I 10000), (I 0)])) ∧ True ∧ True ∧ True ∧ True ∧ True ∧ True ∧ True ∧ True ∧ True ∧ True ∧ True) (by kernel_rfl) ⟨trivial, trivial, trivial, (Ret.to (ret_profit (⟨100000, 45000, 7, 200, [(⟨9, 4⟩ : Train)]⟩ : Fee) (by first | assumption | (simp; done) | decide)) (by rw [show profit (⟨100000, 45000, 7, 200, [(⟨9, 4⟩ : Train)]⟩ : Fee) = (10000, 0) from by kernel_rfl])), trivial, trivial, trivial, trivial, trivial, trivial, trivial, trivial, trivial, trivial, trivial⟩ ?_
  refine T_reg [{}, {}, {}, { d := some (B true) }, {}, {}, {}, { d := some (B true) }, {}, {}, {}, { d := some (B true) }, {}, {}, {}, { d := some (B true) }, {}, {}, {}, {}, {}, {}, { d := some (B true) }, { d := some (B true) }, {}, {}, {}, {}, { d := some (B true) }, { d := some (B true) }] [0] [81, 75, 56, 3] (mk 84 [(0, (dt (B true)))] []) (True ∧ True ∧ True ∧ True ∧ True ∧ (dfill (fun i => some (i * 2, 2)) (List.replicate (1 * 2) .junk) [(0, [(.dat (I 9)), (.dat (I 5000))])] = some ((flat ([(⟨9, 5000⟩ : Pay)].map encPay)).map .dat)) ∧ True ∧ (Ret Try.prog 18 [(.sl 2 ([(⟨9, 5000⟩ : Pay)].map encPay)), (.sl 2 ([(⟨9, 5000⟩ : Pay)].map encPay))] (B true)) ∧ True ∧ True ∧ ((true == true) = true) ∧ True ∧ ((true == true) = true) ∧ True ∧ True ∧ (true = true) ∧ True ∧ True ∧ ((true == true) = true) ∧ True ∧ ((true == true) = true) ∧ True ∧ True ∧ (true = true) ∧ True ∧ True ∧ ((true == true) = true) ∧ True ∧ ((true == true) = true) ∧ True ∧ True ∧ (true = true) ∧ True ∧ True ∧ ((true == true) = true) ∧ True ∧ ((true == true) = true) ∧ True ∧ ((true == true) = true) ∧ True ∧ ((true == true) = true) ∧ True ∧ ((true == true) = true) ∧ (dfill (fun i => some (i * 2, 2)) (List.replicate (3 * 2) .junk) [(0, [(.dat (I 3)), (.dat (I 85000))]), (1, [(.dat (I 7)), (.dat (I 10000))]), (2, [(.dat (I 9)), (.dat (I 5000))])] = some ((flat ([(⟨3, 85000⟩ : Pay), (⟨7, 10000⟩ : Pay), (⟨9, 5000⟩ : Pay)].map encPay)).map .dat)) ∧ ((true == true) = true) ∧ (Ret Try.prog 24 [(.agg [(I 100000), (I 45000), (I 7), (I 200), (.sl 2 ([(⟨9, 4⟩ : Train)].map encTrain))]), (.sl 2 ([(⟨3, 85000⟩ : Pay), (⟨7, 10000⟩ : Pay), (⟨9, 5000⟩ : Pay)].map encPay))] (B true)) ∧ True ∧ (true = true) ∧ True ∧ True ∧ ((true == true) = true) ∧ True ∧ ((true == true) = true) ∧ True ∧ ((true == true) = true) ∧ (dfill (fun i => some (i * 2, 2)) (List.replicate (1 * 2) .junk) [(0, [(.dat (I 7)), (.dat (I 1000))])] = some ((flat ([(⟨7, 1000⟩ : Pay)].map encPay)).map .dat)) ∧ ((true == true) = true) ∧ (Ret Try.prog 24 [(.agg [(I 1000), (I 0), (I 7), (I 1000), nilS]), (.sl 2 ([(⟨7, 1000⟩ : Pay)].map encPay))] (B true)) ∧ True ∧ (true = true) ∧ True ∧ True ∧ True) (by kernel_rfl) ⟨trivial, trivial, trivial, trivial, trivial, rfl, trivial, (Ret.to (ret_same [(⟨9, 5000⟩ : Pay)] [(⟨9, 5000⟩ : Pay)] (by first | assumption | (simp; done) | decide) (by first | assumption | (simp; done) | decide)) (by rw [decide_eq_true rfl])), trivial, trivial, (by rw [show true = true from rfl]; rfl), trivial, (by rw [show true = true from rfl]; rfl), trivial, trivial, rfl, trivial, trivial, (by rw [show true = true from rfl]; rfl), trivial, (by rw [show true = true from rfl]; rfl), trivial, trivial, rfl, trivial, trivial, (by rw [show true = true from rfl]; rfl), trivial, (by rw [show true = true from rfl]; rfl), trivial, trivial, rfl, trivial, trivial, (by rw [show true = true from rfl]; rfl), trivial, (by rw [show true = true from rfl]; rfl), trivial, (by rw [show true = true from rfl]; rfl), trivial, (by rw [show true = true from rfl]; rfl), trivial, (by rw [show true = true from rfl]; rfl), rfl, (by rw [show true = true from rfl]; rfl), (Ret.to (ret_paysX (⟨100000, 45000, 7, 200, [(⟨9, 4⟩ : Train)]⟩ : Fee) [(⟨3, 85000⟩ : Pay), (⟨7, 10000⟩ : Pay), (⟨9, 5000⟩ : Pay)] (by first | assumption | (simp; done) | decide) (by first | assumption | (simp; done) | decide)) (by rw [show paysX (⟨100000, 45000, 7, 200, [(⟨9, 4⟩ : Train)]⟩ : Fee) [(⟨3, 85000⟩ : Pay), (⟨7, 10000⟩ : Pay), (⟨9, 5000⟩ : Pay)] = true from by kernel_rfl])), trivial, rfl, trivial, trivial, (by rw [show true = true from rfl]; rfl), trivial, (by rw [show true = true from rfl]; rfl), trivial, (by rw [show true = true from rfl]; rfl), rfl, (by rw [show true = true from rfl]; rfl), (Ret.weak (Ret.to (ret_paysX (⟨1000, 0, 7, 1000, ([] : List Train)⟩ : Fee) [(⟨7, 1000⟩ : Pay)] (by first | assumption | (simp; done) | decide) (by first | assumption | (simp; done) | decide)) (by rw [show paysX (⟨1000, 0, 7, 1000, ([] : List Train)⟩ : Fee) [(⟨7, 1000⟩ : Pay)] = true from by kernel_rfl])) ⟨(Weak.agg ⟨Weak.refl _, Weak.refl _, Weak.refl _, Weak.refl _, Weak.nil 2, trivial⟩), Weak.refl _, trivial⟩), trivial, rfl, trivial, trivial, trivial⟩ ?_
  refine T_ret ?_
  exact ret_here [(dt (B true))] (by kernel_rfl) (.inl rfl)

theorem ret_law_parts (f : Fee) (ht : f.t.length ≤ 140737488355328) : Ret Try.prog 3 [(.agg [(I f.a), (I f.p), (I f.m), (I f.s), (.sl 2 (f.t.map encTrain))])] (B true) := by
  refine Ret.of_T Try.func3 (by kernel_rfl) rfl ?_
  refine T_turn [] [0] [] (mk 61 [(0, (.agg [(.dat (I f.a)), (.dat (I f.p)), (.dat (I f.m)), (.dat (I f.s)), (.dat (.sl 2 (f.t.map encTrain)))]))] []) (by kernel_rfl) ?_
  refine T_reg [] [1] [] (mk 61 [(1, (.one (.ref 1 0)))] [(1, (.var [(.dat (I f.a)), (.dat (I f.p)), (.dat (I f.m)), (.dat (I f.s)), (.dat (.sl 2 (f.t.map encTrain)))]))]) (True ∧ True ∧ True ∧ True ∧ True) (by kernel_rfl) ⟨trivial, trivial, trivial, trivial, trivial⟩ ?_
  refine T_seq ?_
  refine T_reg [{ d := some (B true) }] [1, 12] [] (mk 61 [(1, (.one (.ref 1 0))), (12, (dt (B false)))] [(1, (.var [(.dat (I f.a)), (.dat (I f.p)), (.dat (I f.m)), (.dat (I f.s)), (.dat (.sl 2 (f.t.map encTrain)))]))]) (True ∧ (Ret Try.prog 10 [] (B true)) ∧ True ∧ True ∧ True) (by kernel_rfl) ⟨trivial, ret_sane, trivial, trivial, trivial⟩ ?_
  refine T_cond false (by kernel_rfl) (fun h => absurd (h.symm.trans rfl) (by decide)) (fun _ => ?_)
  refine T_skip ?_
  refine T_seq ?_
  refine T_reg [{}, { d := some (B (decide (f.t.length ≤ 60))) }] [1, 15] [] (mk 61 [(1, (.one (.ref 1 0))), (15, (dt (B (!(decide (f.t.length ≤ 60))))))] [(1, (.var [(.dat (I f.a)), (.dat (I f.p)), (.dat (I f.m)), (.dat (I f.s)), (.dat (.sl 2 (f.t.map encTrain)))]))]) (True ∧ True ∧ True ∧ (Ret Try.prog 11 [(.agg [(I f.a), (I f.p), (I f.m), (I f.s), (.sl 2 (f.t.map encTrain))])] (B (decide (f.t.length ≤ 60)))) ∧ True ∧ True ∧ True) (by kernel_rfl) ⟨trivial, trivial, trivial, (ret_few f (by first | assumption | (simp; done) | decide)), trivial, trivial, trivial⟩ ?_
  refine T_cond (!(decide (f.t.length ≤ 60))) (by kernel_rfl) (fun h1 => ?_) (fun h1 => ?_)
  · skip
    have n2 : (decide (f.t.length ≤ 60)) = false := not_t h1
    have g3 : ¬ (f.t.length ≤ 60) := of_decide_eq_false (n2)
    refine T_reg [] [2] [1] (mk 61 [(2, (dt (B true)))] []) (True ∧ True ∧ True) (by kernel_rfl) ⟨trivial, trivial, trivial⟩ ?_
    refine T_ret ?_
    exact ret_here [(dt (B true))] (by kernel_rfl) (.inl rfl)
  · skip
    have n4 : (decide (f.t.length ≤ 60)) = true := not_f h1
    have g5 : (f.t.length ≤ 60) := of_decide_eq_true (n4)
    refine T_skip ?_
    refine T_reg [{}, { d := some (.tup [(.sl 2 ((shares f).map encPay)), (I (chk f))]) }] [1, 3, 4] [] (mk 61 [(1, (.one (.ref 1 0))), (3, (dt (.sl 2 ((shares f).map encPay)))), (4, (dt (I (chk f))))] [(1, (.var [(.dat (I f.a)), (.dat (I f.p)), (.dat (I f.m)), (.dat (I f.s)), (.dat (.sl 2 (f.t.map encTrain)))]))]) (True ∧ True ∧ True ∧ (Ret Try.prog 12 [(.agg [(I f.a), (I f.p), (I f.m), (I f.s), (.sl 2 (f.t.map encTrain))])] (.tup [(.sl 2 ((shares f).map encPay)), (I (chk f))])) ∧ True ∧ True ∧ True ∧ True ∧ True ∧ True ∧ True ∧ True ∧ True ∧ True ∧ True) (by kernel_rfl) ⟨trivial, trivial, trivial, (ret_shares f (by first | assumption | (simp; done) | decide)), trivial, trivial, trivial, trivial, trivial, trivial, trivial, trivial, trivial, trivial, trivial⟩ ?_
    refine T_reg [{}, { d := some (.tup [(.sl 2 ((shares f).map encPay)), (I (chk f))]) }] [1, 3, 4, 5, 6] [] (mk 61 [(1, (.one (.ref 1 0))), (3, (dt (.sl 2 ((shares f).map encPay)))), (4, (dt (I (chk f)))), (5, (dt (.sl 2 ((shares f).map encPay)))), (6, (dt (I (chk f))))] [(1, (.var [(.dat (I f.a)), (.dat (I f.p)), (.dat (I f.m)), (.dat (I f.s)), (.dat (.sl 2 (f.t.map encTrain)))]))]) (True ∧ True ∧ True ∧ (Ret Try.prog 13 [(.agg [(I f.a), (I f.p), (I f.m), (I f.s), (.sl 2 (f.t.map encTrain))])] (.tup [(.sl 2 ((shares f).map encPay)), (I (chk f))])) ∧ True ∧ True ∧ True ∧ True ∧ True ∧ True ∧ True ∧ True ∧ True ∧ True ∧ True) (by kernel_rfl) ⟨trivial, trivial, trivial, (ret_sharesR f (by first | assumption | (simp; done) | decide)), trivial, trivial, trivial, trivial, trivial, trivial, trivial, trivial, trivial, trivial, trivial⟩ ?_
    refine T_reg [{}, { d := some (.tup [(I (profit f).1), (I (profit f).2)]) }] [1, 3, 4, 5, 6, 7, 8] [] (mk 61 [(1, (.one (.ref 1 0))), (3, (dt (.sl 2 ((shares f).map encPay)))), (4, (dt (I (chk f)))), (5, (dt (.sl 2 ((shares f).map encPay)))), (6, (dt (I (chk f)))), (7, (dt (I (profit f).1))), (8, (dt (I (profit f).2)))] [(1, (.var [(.dat (I f.a)), (.dat (I f.p)), (.dat (I f.m)), (.dat (I f.s)), (.dat (.sl 2 (f.t.map encTrain)))]))]) (True ∧ True ∧ True ∧ (Ret Try.prog 14 [(.agg [(I f.a), (I f.p), (I f.m), (I f.s), (.sl 2 (f.t.map encTrain))])] (.tup [(I (profit f).1), (I (profit f).2)])) ∧ True ∧ True ∧ True ∧ True ∧ True ∧ True ∧ True ∧ True ∧ True ∧ True ∧ True) (by kernel_rfl) ⟨trivial, trivial, trivial, (ret_profit f (by first | assumption | (simp; done) | decide)), trivial, trivial, trivial, trivial, trivial, trivial, trivial, trivial, trivial, trivial, trivial⟩ ?_
    refine T_reg [{}, { d := some (.tup [(I (profit f).1), (I (profit f).2)]) }] [1, 3, 4, 5, 6, 7, 8, 9, 10] [] (mk 61 [(1, (.one (.ref 1 0))), (3, (dt (.sl 2 ((shares f).map encPay)))), (4, (dt (I (chk f)))), (5, (dt (.sl 2 ((shares f).map encPay)))), (6, (dt (I (chk f)))), (7, (dt (I (profit f).1))), (8, (dt (I (profit f).2))), (9, (dt (I (profit f).1))), (10, (dt (I (profit f).2)))] [(1, (.var [(.dat (I f.a)), (.dat (I f.p)), (.dat (I f.m)), (.dat (I f.s)), (.dat (.sl 2 (f.t.map encTrain)))]))]) (True ∧ True ∧ True ∧ (Ret Try.prog 15 [(.agg [(I f.a), (I f.p), (I f.m), (I f.s), (.sl 2 (f.t.map encTrain))])] (.tup [(I (profit f).1), (I (profit f).2)])) ∧ True ∧ True ∧ True ∧ True ∧ True ∧ True ∧ True ∧ True ∧ True ∧ True ∧ True) (by kernel_rfl) ⟨trivial, trivial, trivial, (ret_profitR f (by first | assumption | (simp; done) | decide)), trivial, trivial, trivial, trivial, trivial, trivial, trivial, trivial, trivial, trivial, trivial⟩ ?_
    refine T_regD 26 [{}, { d := some (I (chk f)) }, {}, { d := some (I (chk f)) }, {}, {}, {}, {}, { d := some (B true) }, { d := some (B true) }, {}, {}, {}, {}, { d := some (B true) }, {}, {}, {}, {}, { d := some (B true) }, {}, {}, {}, {}, { d := some (B true) }] [2] [1] (mk 61 [(2, (dt (B ((profit f).2 == (profit f).2))))] []) ((True ∧ True ∧ True ∧ (Ret Try.prog 16 [(.agg [(I f.a), (I f.p), (I f.m), (I f.s), (.sl 2 (f.t.map encTrain))])] (I (chk f))) ∧ True ∧ True ∧ True ∧ (Ret Try.prog 17 [(.agg [(I f.a), (I f.p), (I f.m), (I f.s), (.sl 2 (f.t.map encTrain))])] (I (chk f))) ∧ True ∧ True ∧ True ∧ True ∧ ((((chk f) == (chk f)) == true) = true) ∧ True ∧ ((((chk f) == (chk f)) == true) = true) ∧ True ∧ ((((chk f) == (chk f)) == true) = true) ∧ (Ret Try.prog 18 [(.sl 2 ((shares f).map encPay)), (.sl 2 ((shares f).map encPay))] (B true)) ∧ True ∧ (((chk f) == (chk f)) = true) ∧ True ∧ True ∧ ((true == true) = true) ∧ True ∧ ((true == true) = true) ∧ True ∧ ((true == true) = true) ∧ True ∧ True ∧ (true = true) ∧ True ∧ True ∧ ((((chk f) == (chk f)) == true) = true) ∧ True ∧ ((((chk f) == (chk f)) == true) = true) ∧ True ∧ ((((chk f) == (chk f)) == true) = true) ∧ True ∧ True ∧ (((chk f) == (chk f)) = true) ∧ True ∧ True ∧ ((((profit f).1 == (profit f).1) == true) = true) ∧ True ∧ ((((profit f).1 == (profit f).1) == true) = true) ∧ True ∧ ((((profit f).1 == (profit f).1) == true) = true) ∧ True ∧ True ∧ (((profit f).1 == (profit f).1) = true) ∧ True ∧ True ∧ True) ∧ True) (by kernel_rfl) (by kernel_rfl) (by kernel_rfl) ⟨⟨trivial, trivial, trivial, (ret_chk f (by first | assumption | (simp; done) | decide)), trivial, trivial, trivial, (ret_chkR f (by first | assumption | (simp; done) | decide)), trivial, trivial, trivial, trivial, (by rw [show ((chk f) == (chk f)) = true from (beq_self_eq_true _)]; rfl), trivial, (by rw [show ((chk f) == (chk f)) = true from (beq_self_eq_true _)]; rfl), trivial, (by rw [show ((chk f) == (chk f)) = true from (beq_self_eq_true _)]; rfl), (Ret.to (ret_same (shares f) (shares f) (by have := shares_len f; omega) (by have := shares_len f; omega)) (by rw [decide_eq_true rfl])), trivial, (beq_self_eq_true _), trivial, trivial, (by rw [show true = true from rfl]; rfl), trivial, (by rw [show true = true from rfl]; rfl), trivial, (by rw [show true = true from rfl]; rfl), trivial, trivial, rfl, trivial, trivial, (by rw [show ((chk f) == (chk f)) = true from (beq_self_eq_true _)]; rfl), trivial, (by rw [show ((chk f) == (chk f)) = true from (beq_self_eq_true _)]; rfl), trivial, (by rw [show ((chk f) == (chk f)) = true from (beq_self_eq_true _)]; rfl), trivial, trivial, (beq_self_eq_true _), trivial, trivial, (by rw [show ((profit f).1 == (profit f).1) = true from (beq_self_eq_true _)]; rfl), trivial, (by rw [show ((profit f).1 == (profit f).1) = true from (beq_self_eq_true _)]; rfl), trivial, (by rw [show ((profit f).1 == (profit f).1) = true from (beq_self_eq_true _)]; rfl), trivial, trivial, (beq_self_eq_true _), trivial, trivial, trivial⟩, trivial⟩ ?_
    refine T_ret ?_
    exact ret_here [(dt (B ((profit f).2 == (profit f).2)))] (by kernel_rfl) (.inl (congrArg B (by first | rfl | simp : ((profit f).2 == (profit f).2) = true)))

theorem ret_law_pays (f : Fee) (s : Int) (ht : f.t.length ≤ 140737488355328) : Ret Try.prog 4 [(.agg [(I f.a), (I f.p), (I f.m), (I f.s), (.sl 2 (f.t.map encTrain))]), (I s)] (B true) := by
  refine Ret.of_T Try.func4 (by kernel_rfl) rfl ?_
  refine T_turn [] [0, 1] [] (mk 34 [(0, (.agg [(.dat (I f.a)), (.dat (I f.p)), (.dat (I f.m)), (.dat (I f.s)), (.dat (.sl 2 (f.t.map encTrain)))])), (1, (dt (I s)))] []) (by kernel_rfl) ?_
  refine T_reg [] [1, 2] [] (mk 34 [(1, (dt (I s))), (2, (.one (.ref 2 0)))] [(2, (.var [(.dat (I f.a)), (.dat (I f.p)), (.dat (I f.m)), (.dat (I f.s)), (.dat (.sl 2 (f.t.map encTrain)))]))]) (True ∧ True ∧ True ∧ True ∧ True) (by kernel_rfl) ⟨trivial, trivial, trivial, trivial, trivial⟩ ?_
  refine T_seq ?_
  refine T_reg [{ d := some (B true) }] [1, 2, 10] [] (mk 34 [(1, (dt (I s))), (2, (.one (.ref 2 0))), (10, (dt (B false)))] [(2, (.var [(.dat (I f.a)), (.dat (I f.p)), (.dat (I f.m)), (.dat (I f.s)), (.dat (.sl 2 (f.t.map encTrain)))]))]) (True ∧ (Ret Try.prog 10 [] (B true)) ∧ True ∧ True ∧ True) (by kernel_rfl) ⟨trivial, ret_sane, trivial, trivial, trivial⟩ ?_
  refine T_cond false (by kernel_rfl) (fun h => absurd (h.symm.trans rfl) (by decide)) (fun _ => ?_)
  refine T_skip ?_
  refine T_seq ?_
  refine T_reg [{}, { d := some (B (decide (f.t.length ≤ 60))) }] [1, 2, 13] [] (mk 34 [(1, (dt (I s))), (2, (.one (.ref 2 0))), (13, (dt (B (!(decide (f.t.length ≤ 60))))))] [(2, (.var [(.dat (I f.a)), (.dat (I f.p)), (.dat (I f.m)), (.dat (I f.s)), (.dat (.sl 2 (f.t.map encTrain)))]))]) (True ∧ True ∧ True ∧ (Ret Try.prog 11 [(.agg [(I f.a), (I f.p), (I f.m), (I f.s), (.sl 2 (f.t.map encTrain))])] (B (decide (f.t.length ≤ 60)))) ∧ True ∧ True ∧ True) (by kernel_rfl) ⟨trivial, trivial, trivial, (ret_few f (by first | assumption | (simp; done) | decide)), trivial, trivial, trivial⟩ ?_
  refine T_cond (!(decide (f.t.length ≤ 60))) (by kernel_rfl) (fun h1 => ?_) (fun h1 => ?_)
  · skip
    have n2 : (decide (f.t.length ≤ 60)) = false := not_t h1
    have g3 : ¬ (f.t.length ≤ 60) := of_decide_eq_false (n2)
    refine T_reg [] [4] [2] (mk 34 [(4, (dt (B true)))] []) (True ∧ True ∧ True) (by kernel_rfl) ⟨trivial, trivial, trivial⟩ ?_
    refine T_ret ?_
    exact ret_here [(dt (B true))] (by kernel_rfl) (.inl rfl)
  · skip
    have n4 : (decide (f.t.length ≤ 60)) = true := not_f h1
    have g5 : (f.t.length ≤ 60) := of_decide_eq_true (n4)
    refine T_skip ?_
    refine T_reg [{}, {}, { d := some (.tup [(.sl 2 ((pays f s).map encPay)), (I (paysE f s))]) }] [1, 2, 5, 6] [] (mk 34 [(1, (dt (I s))), (2, (.one (.ref 2 0))), (5, (dt (.sl 2 ((pays f s).map encPay)))), (6, (dt (I (paysE f s))))] [(2, (.var [(.dat (I f.a)), (.dat (I f.p)), (.dat (I f.m)), (.dat (I f.s)), (.dat (.sl 2 (f.t.map encTrain)))]))]) (True ∧ True ∧ True ∧ True ∧ True ∧ (Ret Try.prog 19 [(.agg [(I f.a), (I f.p), (I f.m), (I f.s), (.sl 2 (f.t.map encTrain))]), (I s)] (.tup [(.sl 2 ((pays f s).map encPay)), (I (paysE f s))])) ∧ True ∧ True ∧ True ∧ True ∧ True ∧ True ∧ True ∧ True ∧ True ∧ True ∧ True) (by kernel_rfl) ⟨trivial, trivial, trivial, trivial, trivial, (ret_pays f s (by first | assumption | (simp; done) | decide)), trivial, trivial, trivial, trivial, trivial, trivial, trivial, trivial, trivial, trivial, trivial⟩ ?_
    refine T_reg [{}, {}, { d := some (.tup [(.sl 2 ((pays f s).map encPay)), (I (paysE f s))]) }] [5, 6, 7, 8] [2] (mk 34 [(5, (dt (.sl 2 ((pays f s).map encPay)))), (6, (dt (I (paysE f s)))), (7, (dt (.sl 2 ((pays f s).map encPay)))), (8, (dt (I (paysE f s))))] []) (True ∧ True ∧ True ∧ True ∧ True ∧ (Ret Try.prog 20 [(.agg [(I f.a), (I f.p), (I f.m), (I f.s), (.sl 2 (f.t.map encTrain))]), (I s)] (.tup [(.sl 2 ((pays f s).map encPay)), (I (paysE f s))])) ∧ True ∧ True ∧ True ∧ True ∧ True ∧ True ∧ True ∧ True ∧ True ∧ True ∧ True) (by kernel_rfl) ⟨trivial, trivial, trivial, trivial, trivial, (ret_paysR f s (by first | assumption | (simp; done) | decide)), trivial, trivial, trivial, trivial, trivial, trivial, trivial, trivial, trivial, trivial, trivial⟩ ?_
    refine T_reg [{}, {}, { d := some (B true) }, {}, {}, {}, {}, { d := some (B true) }] [4] [] (mk 34 [(4, (dt (B ((paysE f s) == (paysE f s)))))] []) (True ∧ True ∧ True ∧ True ∧ True ∧ (Ret Try.prog 18 [(.sl 2 ((pays f s).map encPay)), (.sl 2 ((pays f s).map encPay))] (B true)) ∧ True ∧ True ∧ ((true == true) = true) ∧ True ∧ ((true == true) = true) ∧ True ∧ ((true == true) = true) ∧ True ∧ True ∧ (true = true) ∧ True ∧ True ∧ True) (by kernel_rfl) ⟨trivial, trivial, trivial, trivial, trivial, (Ret.to (ret_same (pays f s) (pays f s) (by have := pays_len f s; omega) (by have := pays_len f s; omega)) (by rw [decide_eq_true rfl])), trivial, trivial, (by rw [show true = true from rfl]; rfl), trivial, (by rw [show true = true from rfl]; rfl), trivial, (by rw [show true = true from rfl]; rfl), trivial, trivial, rfl, trivial, trivial, trivial⟩ ?_
    refine T_ret ?_
    exact ret_here [(dt (B ((paysE f s) == (paysE f s))))] (by kernel_rfl) (.inl (congrArg B (by first | rfl | simp : ((paysE f s) == (paysE f s)) = true)))

end Go.Proofs.Ythpjlkpkhlkhbaa

/-
  Chapter 38: how the arguments of the laws read.
-/
set_option linter.unusedVariables false
set_option linter.unusedSimpArgs false
namespace Go.Proofs.Ythpjlkpkhlkhbaa
open Go.DL Go.ChangeShapes Go.WideShapes Go.ChangeAt Go.RowKit
set_option maxRecDepth 100000
theorem Try.own : ownKnob Try.prog.godebug = none := by kernel_rfl
theorem Try.laidOut : laidOutB Try.prog = true := by kernel_rfl
theorem undInt : Try.prog.underlying 3 = some (.int .i64) := by kernel_rfl
theorem undBool : Try.prog.underlying 4 = some .bool := by kernel_rfl
theorem undTrs : Try.prog.underlying 22 = some (.slice 43) := by kernel_rfl
abbrev R47 : Nat := 140737488355328
theorem reach_lt {n k : Nat} (h : n * k ≤ reachBytes) (hk : 0 < k) : n ≤ R47 := by
  have h1 : n ≤ n * k := Nat.le_mul_of_pos_right _ hk
  have h2 : reachBytes ≤ R47 := by decide
  omega
theorem decInt : Dec Try.prog 3 (fun n : Int => [encI n]) (fun n => (Lit.int .i64 n).wf = true) := Dec.int undInt
theorem decTrain : Dec Try.prog 43 (fun p : Train => [.int .i64 p.c, .int .i64 p.s]) (fun _ => True) :=
  Dec.map (Dec.struct 2 (by kernel_rfl) (by kernel_rfl) (DecFs.cons 1 (by kernel_rfl) (Dec.int undInt) (fun _ => rfl) (DecFs.cons 1 (by kernel_rfl) (Dec.int undInt) (fun _ => rfl) (DecFs.nil _))) (fun _ => rfl))
    (fun q => ⟨q.1, q.2.1⟩) _ _ (fun _ => rfl) (fun _ _ => trivial)
theorem decTrains : Dec Try.prog 22 (fun l : List Train => [.sl 2 (l.map encTrain)]) (fun l => l.length ≤ R47) :=
  Dec.map (Dec.slice undTrs 2 16 (by kernel_rfl) (by kernel_rfl) (by decide) decTrain encTrain (fun _ => rfl) (fun _ => rfl)) id _ _ (fun _ => rfl) (fun _ h => reach_lt h.1 (by decide))
theorem decFee : Dec Try.prog 24 (fun x : Fee => [.int .i64 x.a, .int .i64 x.p, .int .i64 x.m, .int .i64 x.s, .sl 2 (x.t.map encTrain)]) (fun x => x.t.length ≤ R47) :=
  Dec.map (Dec.struct 5 (by kernel_rfl) (by kernel_rfl) (DecFs.cons 1 (by kernel_rfl) (Dec.int undInt) (fun _ => rfl) (DecFs.cons 1 (by kernel_rfl) (Dec.int undInt) (fun _ => rfl) (DecFs.cons 1 (by kernel_rfl) (Dec.int undInt) (fun _ => rfl)
    (DecFs.cons 1 (by kernel_rfl) (Dec.int undInt) (fun _ => rfl) (DecFs.cons 1 (by kernel_rfl) decTrains (fun _ => rfl) (DecFs.nil _)))))) (fun _ => rfl))
    (fun q => ⟨q.1, q.2.1, q.2.2.1, q.2.2.2.1, q.2.2.2.2.1⟩) _ _ (fun _ => rfl) (fun _ h => h.2.2.2.2.1)
end Go.Proofs.Ythpjlkpkhlkhbaa
