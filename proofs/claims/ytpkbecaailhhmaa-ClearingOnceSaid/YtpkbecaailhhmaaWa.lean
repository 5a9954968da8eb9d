/-
  Walks at the data level, printed by gen.py: what each Go function returns, for data that reads as said. Conditions: those of each theorem.
-/
import Derived.Test.YtpkbecaailhhmaaRows
import Derived.Test.YtpkbecaailhhmaaSp
namespace Go.Proofs.Ytpkbecaailhhmaa
open Go.DL
set_option maxRecDepth 100000
set_option linter.unusedVariables false
set_option linter.unusedSimpArgs false
theorem ret_sum (l : List Pay) (hl : l.length ≤ 140737488355328) : Ret Try.prog 38 [(.sl 2 (l.map encPay))] (I (sumFrom 0 l)) := by
  refine Ret.of_T Try.func38 (by kernel_rfl) rfl ?_
  refine T_turn [] [0] [] (mk 17 [(0, (dt (.sl 2 (l.map encPay))))] []) (by kernel_rfl) ?_
  refine T_reg [] [0, 2] [] (mk 17 [(0, (dt (.sl 2 (l.map encPay)))), (2, (dt (I 0)))] []) (True ∧ True ∧ True) (by kernel_rfl) ⟨trivial, trivial, trivial⟩ ?_
  refine T_seq ?_
  refine T_reg [{}, { d := some (I ((l.length : Nat) : Int)) }] [2, 5, 6, 7] [] (mk 17 [(2, (dt (I 0))), (5, (dt (.sl 2 (l.map encPay)))), (6, (dt (I ((l.length : Nat) : Int)))), (7, (dt (I 0)))] []) (True ∧ True ∧ True ∧ (True ∧ D.int .i64 ((l.map encPay).length : Int) = (I ((l.length : Nat) : Int))) ∧ True ∧ True ∧ True) (by kernel_rfl) ⟨trivial, trivial, trivial, ⟨trivial, by rw [List.length_map]⟩, trivial, trivial, trivial⟩ ?_
  refine T_block ?_
  refine T_turn [] [2, 5, 6, 7] [] ((fun ((k, n) : Nat × Int) => (mk 17 [(2, (dt (I n))), (5, (dt (.sl 2 (l.map encPay)))), (6, (dt (I ((l.length : Nat) : Int)))), (7, (dt (I ((k : Nat) : Int))))] [])) (0, 0)) (by kernel_rfl) (T_loop (α := Nat × Int) (fun ((k, n) : Nat × Int) => (mk 17 [(2, (dt (I n))), (5, (dt (.sl 2 (l.map encPay)))), (6, (dt (I ((l.length : Nat) : Int)))), (7, (dt (I ((k : Nat) : Int))))] [])) (fun ((k, n) : Nat × Int) => (k ≤ (l).length) ∧ (sumFrom n (l.drop k) = sumFrom 0 l) ∧ True) (fun ((k, n) : Nat × Int) => (l).length - k) (0, 0) ⟨Nat.zero_le _, rfl, trivial⟩ ?_)
  rintro ⟨k, n⟩ ⟨ik, iv, _⟩
  refine T_reg [] [2, 5, 6, 7, 8] [] (mk 17 [(2, (dt (I n))), (5, (dt (.sl 2 (l.map encPay)))), (6, (dt (I ((l.length : Nat) : Int)))), (7, (dt (I ((k : Nat) : Int)))), (8, (dt (B (decide (((k : Nat) : Int) < ((l.length : Nat) : Int))))))] []) (True ∧ True ∧ True) (by kernel_rfl) ⟨trivial, trivial, trivial⟩ ?_
  refine T_seq ?_
  refine T_cond (decide (((k : Nat) : Int) < ((l.length : Nat) : Int))) (by kernel_rfl) (fun h1 => ?_) (fun h1 => ?_)
  · skip
    have g2 : ((k : Nat) : Int) < ((l.length : Nat) : Int) := of_decide_eq_true (h1)
    refine T_skip ?_
    refine T_seq ?_
    refine T_block ?_
    have lt3 : k < (l).length := by first | omega | (simp only [List.length_set, List.length_map, List.length_append, List.length_cons, List.length_nil] at *; omega)
    obtain ⟨x4, hx5⟩ : ∃ x, (l)[k]? = some x := ⟨_, List.getElem?_eq_getElem lt3⟩
    refine T_reg [{ d := some (.agg [(I x4.c), (I x4.a)]) }] [2, 4, 5, 6, 7] [] (mk 17 [(2, (dt (I n))), (4, (.one (.ref 4 0))), (5, (dt (.sl 2 (l.map encPay)))), (6, (dt (I ((l.length : Nat) : Int)))), (7, (dt (I ((k : Nat) : Int))))] [(4, (.var [(.dat (I x4.c)), (.dat (I x4.a))]))]) (True ∧ (0 ≤ ((k : Nat) : Int) ∧ (l.map encPay)[k]? = some (.agg [(I x4.c), (I x4.a)])) ∧ True ∧ True ∧ True ∧ True ∧ True ∧ True ∧ True) (by kernel_rfl) ⟨trivial, ⟨by omega, by rw [List.getElem?_map, hx5]; rfl⟩, trivial, trivial, trivial, trivial, trivial, trivial, trivial⟩ ?_
    refine T_regE [] (mk 17 [(2, (dt (I (IntKind.i64.wrap (n + x4.a))))), (4, (.one (.ref 4 0))), (5, (dt (.sl 2 (l.map encPay)))), (6, (dt (I ((l.length : Nat) : Int)))), (7, (dt (I ((k : Nat) : Int)))), (11, (dt (I n))), (12, (.one (.ref 4 1))), (13, (dt (I x4.a))), (14, (dt (I (IntKind.i64.wrap (n + x4.a)))))] [(4, (.var [(.dat (I x4.c)), (.dat (I x4.a))]))]) (True ∧ True ∧ True ∧ True ∧ True ∧ True ∧ True ∧ True ∧ True ∧ True ∧ True) (by kernel_rfl) ⟨trivial, trivial, trivial, trivial, trivial, trivial, trivial, trivial, trivial, trivial, trivial⟩ ?_
    refine T_regE [{ d := some (I ((k + 1 : Nat) : Int)) }] (mk 17 [(2, (dt (I (IntKind.i64.wrap (n + x4.a))))), (4, (.one (.ref 4 0))), (5, (dt (.sl 2 (l.map encPay)))), (6, (dt (I ((l.length : Nat) : Int)))), (7, (dt (I ((k + 1 : Nat) : Int)))), (11, (dt (I n))), (12, (.one (.ref 4 1))), (13, (dt (I x4.a))), (14, (dt (I (IntKind.i64.wrap (n + x4.a))))), (15, (dt (I ((k + 1 : Nat) : Int))))] [(4, (.var [(.dat (I x4.c)), (.dat (I x4.a))]))]) (True ∧ (IntKind.i64.wrap (((k : Nat) : Int) + 1) = ((k + 1 : Nat) : Int)) ∧ True ∧ True ∧ True) (by kernel_rfl) ⟨trivial, (by rw [i64_wrap (by omega) (by omega)]; omega), trivial, trivial, trivial⟩ ?_
    refine Exists.intro (k + 1, (IntKind.i64.wrap (n + x4.a))) ⟨⟨by omega, by rw [← iv]; exact (sumFrom_drop _ hx5).symm, trivial⟩, by first | omega | (dsimp only; omega), le_turn [] [2, 5, 6, 7] [4] (by kernel_rfl)⟩
  · skip
    have g6 : ¬ (((k : Nat) : Int) < ((l.length : Nat) : Int)) := of_decide_eq_false (h1)
    refine T_exit ?_
    refine T_reg [] [2] [] (mk 17 [(2, (dt (I n)))] []) (True ∧ True ∧ True ∧ True ∧ True) (by kernel_rfl) ⟨trivial, trivial, trivial, trivial, trivial⟩ ?_
    refine T_ret ?_
    exact ret_here [(dt (I n))] (by kernel_rfl) (.inl (congrArg I (by rw [← iv, List.drop_eq_nil_of_le (by omega)]; rfl : n = (sumFrom 0 l))))

theorem ret_sumR (l : List Pay) (hl : l.length ≤ 140737488355328) : Ret Try.prog 39 [(.sl 2 (l.map encPay))] (I (sumFrom 0 l)) := by
  refine Ret.of_T Try.func39 (by kernel_rfl) rfl ?_
  refine T_turn [] [0] [] (mk 19 [(0, (dt (.sl 2 (l.map encPay))))] []) (by kernel_rfl) ?_
  refine T_reg [] [0] [] (mk 19 [(0, (dt (.sl 2 (l.map encPay))))] []) (True ∧ True ∧ True) (by kernel_rfl) ⟨trivial, trivial, trivial⟩ ?_
  refine T_reg [] [0, 3] [] (mk 19 [(0, (dt (.sl 2 (l.map encPay)))), (3, (dt (I 0)))] []) (True ∧ True ∧ True) (by kernel_rfl) ⟨trivial, trivial, trivial⟩ ?_
  refine T_seq ?_
  refine T_reg [] [0, 3, 4] [] (mk 19 [(0, (dt (.sl 2 (l.map encPay)))), (3, (dt (I 0))), (4, (dt (I 0)))] []) (True ∧ True ∧ True) (by kernel_rfl) ⟨trivial, trivial, trivial⟩ ?_
  refine T_block ?_
  refine T_turn [] [0, 3, 4] [] ((fun ((k, n) : Nat × Int) => (mk 19 [(0, (dt (.sl 2 (l.map encPay)))), (3, (dt (I n))), (4, (dt (I ((k : Nat) : Int))))] [])) (0, 0)) (by kernel_rfl) (T_loop (α := Nat × Int) (fun ((k, n) : Nat × Int) => (mk 19 [(0, (dt (.sl 2 (l.map encPay)))), (3, (dt (I n))), (4, (dt (I ((k : Nat) : Int))))] [])) (fun ((k, n) : Nat × Int) => (k ≤ (l).length) ∧ (sumFrom n (l.drop k) = sumFrom 0 l) ∧ True) (fun ((k, n) : Nat × Int) => (l).length - k) (0, 0) ⟨Nat.zero_le _, rfl, trivial⟩ ?_)
  rintro ⟨k, n⟩ ⟨ik, iv, _⟩
  refine T_seq ?_
  refine T_reg [{}, {}, { d := some (I ((l.length : Nat) : Int)) }] [0, 3, 4, 8] [] (mk 19 [(0, (dt (.sl 2 (l.map encPay)))), (3, (dt (I n))), (4, (dt (I ((k : Nat) : Int)))), (8, (dt (B (decide (((k : Nat) : Int) < ((l.length : Nat) : Int))))))] []) (True ∧ True ∧ True ∧ True ∧ True ∧ (True ∧ D.int .i64 ((l.map encPay).length : Int) = (I ((l.length : Nat) : Int))) ∧ True ∧ True ∧ True) (by kernel_rfl) ⟨trivial, trivial, trivial, trivial, trivial, ⟨trivial, by rw [List.length_map]⟩, trivial, trivial, trivial⟩ ?_
  refine T_cond (decide (((k : Nat) : Int) < ((l.length : Nat) : Int))) (by kernel_rfl) (fun h1 => ?_) (fun h1 => ?_)
  · skip
    have g2 : ((k : Nat) : Int) < ((l.length : Nat) : Int) := of_decide_eq_true (h1)
    refine T_skip ?_
    refine T_seq ?_
    refine T_block ?_
    have lt3 : k < (l).length := by first | omega | (simp only [List.length_set, List.length_map, List.length_append, List.length_cons, List.length_nil] at *; omega)
    obtain ⟨x4, hx5⟩ : ∃ x, (l)[k]? = some x := ⟨_, List.getElem?_eq_getElem lt3⟩
    refine T_regE [{}, {}, {}, { d := some (.agg [(I x4.c), (I x4.a)]) }] (mk 19 [(0, (dt (.sl 2 (l.map encPay)))), (3, (dt (I (IntKind.i64.wrap (n + x4.a))))), (4, (dt (I ((k : Nat) : Int)))), (8, (dt (B (decide (((k : Nat) : Int) < ((l.length : Nat) : Int)))))), (11, (dt (I n))), (12, (dt (.sl 2 (l.map encPay)))), (13, (dt (I ((k : Nat) : Int)))), (14, (dt (.ptr [(I x4.c), (I x4.a)]))), (15, (dt (.ptr [(I x4.a)]))), (16, (dt (I x4.a))), (17, (dt (I (IntKind.i64.wrap (n + x4.a)))))] []) (True ∧ True ∧ True ∧ True ∧ True ∧ True ∧ True ∧ (0 ≤ ((k : Nat) : Int) ∧ (l.map encPay)[k]? = some (.agg [(I x4.c), (I x4.a)])) ∧ True ∧ True ∧ True ∧ True ∧ True ∧ True ∧ True ∧ True ∧ True) (by kernel_rfl) ⟨trivial, trivial, trivial, trivial, trivial, trivial, trivial, ⟨by omega, by rw [List.getElem?_map, hx5]; rfl⟩, trivial, trivial, trivial, trivial, trivial, trivial, trivial, trivial, trivial⟩ ?_
    refine T_regE [{}, { d := some (I ((k + 1 : Nat) : Int)) }] (mk 19 [(0, (dt (.sl 2 (l.map encPay)))), (3, (dt (I (IntKind.i64.wrap (n + x4.a))))), (4, (dt (I ((k + 1 : Nat) : Int)))), (8, (dt (B (decide (((k : Nat) : Int) < ((l.length : Nat) : Int)))))), (9, (dt (I ((k : Nat) : Int)))), (10, (dt (I ((k + 1 : Nat) : Int)))), (11, (dt (I n))), (12, (dt (.sl 2 (l.map encPay)))), (13, (dt (I ((k : Nat) : Int)))), (14, (dt (.ptr [(I x4.c), (I x4.a)]))), (15, (dt (.ptr [(I x4.a)]))), (16, (dt (I x4.a))), (17, (dt (I (IntKind.i64.wrap (n + x4.a)))))] []) (True ∧ True ∧ True ∧ (IntKind.i64.wrap (((k : Nat) : Int) + 1) = ((k + 1 : Nat) : Int)) ∧ True ∧ True ∧ True) (by kernel_rfl) ⟨trivial, trivial, trivial, (by rw [i64_wrap (by omega) (by omega)]; omega), trivial, trivial, trivial⟩ ?_
    refine Exists.intro (k + 1, (IntKind.i64.wrap (n + x4.a))) ⟨⟨by omega, by rw [← iv]; exact (sumFrom_drop _ hx5).symm, trivial⟩, by first | omega | (dsimp only; omega), le_turn [] [0, 3, 4] [] (by kernel_rfl)⟩
  · skip
    have g6 : ¬ (((k : Nat) : Int) < ((l.length : Nat) : Int)) := of_decide_eq_false (h1)
    refine T_exit ?_
    refine T_reg [] [2] [] (mk 19 [(2, (dt (I n)))] []) (True ∧ True ∧ True ∧ True ∧ True) (by kernel_rfl) ⟨trivial, trivial, trivial, trivial, trivial⟩ ?_
    refine T_ret ?_
    exact ret_here [(dt (I n))] (by kernel_rfl) (.inl (congrArg I (by rw [← iv, List.drop_eq_nil_of_le (by omega)]; rfl : n = (sumFrom 0 l))))

theorem ret_sumL (l : List Pay) (hl : l.length ≤ 140737488355328) : Ret Try.prog 30 [(.sl 2 (l.map encPay))] (I (sumFrom 0 l)) := by
  refine Ret.of_T Try.func30 (by kernel_rfl) rfl ?_
  refine T_turn [] [0] [] (mk 19 [(0, (dt (.sl 2 (l.map encPay))))] []) (by kernel_rfl) ?_
  refine T_reg [] [0] [] (mk 19 [(0, (dt (.sl 2 (l.map encPay))))] []) (True ∧ True ∧ True) (by kernel_rfl) ⟨trivial, trivial, trivial⟩ ?_
  refine T_reg [] [0, 3] [] (mk 19 [(0, (dt (.sl 2 (l.map encPay)))), (3, (dt (I 0)))] []) (True ∧ True ∧ True) (by kernel_rfl) ⟨trivial, trivial, trivial⟩ ?_
  refine T_seq ?_
  refine T_reg [] [0, 3, 4] [] (mk 19 [(0, (dt (.sl 2 (l.map encPay)))), (3, (dt (I 0))), (4, (dt (I 0)))] []) (True ∧ True ∧ True) (by kernel_rfl) ⟨trivial, trivial, trivial⟩ ?_
  refine T_block ?_
  refine T_turn [] [0, 3, 4] [] ((fun ((k, n) : Nat × Int) => (mk 19 [(0, (dt (.sl 2 (l.map encPay)))), (3, (dt (I n))), (4, (dt (I ((k : Nat) : Int))))] [])) (0, 0)) (by kernel_rfl) (T_loop (α := Nat × Int) (fun ((k, n) : Nat × Int) => (mk 19 [(0, (dt (.sl 2 (l.map encPay)))), (3, (dt (I n))), (4, (dt (I ((k : Nat) : Int))))] [])) (fun ((k, n) : Nat × Int) => (k ≤ (l).length) ∧ (sumFrom n (l.drop k) = sumFrom 0 l) ∧ True) (fun ((k, n) : Nat × Int) => (l).length - k) (0, 0) ⟨Nat.zero_le _, rfl, trivial⟩ ?_)
  rintro ⟨k, n⟩ ⟨ik, iv, _⟩
  refine T_seq ?_
  refine T_reg [{}, {}, { d := some (I ((l.length : Nat) : Int)) }] [0, 3, 4, 8] [] (mk 19 [(0, (dt (.sl 2 (l.map encPay)))), (3, (dt (I n))), (4, (dt (I ((k : Nat) : Int)))), (8, (dt (B (decide (((k : Nat) : Int) < ((l.length : Nat) : Int))))))] []) (True ∧ True ∧ True ∧ True ∧ True ∧ (True ∧ D.int .i64 ((l.map encPay).length : Int) = (I ((l.length : Nat) : Int))) ∧ True ∧ True ∧ True) (by kernel_rfl) ⟨trivial, trivial, trivial, trivial, trivial, ⟨trivial, by rw [List.length_map]⟩, trivial, trivial, trivial⟩ ?_
  refine T_cond (decide (((k : Nat) : Int) < ((l.length : Nat) : Int))) (by kernel_rfl) (fun h1 => ?_) (fun h1 => ?_)
  · skip
    have g2 : ((k : Nat) : Int) < ((l.length : Nat) : Int) := of_decide_eq_true (h1)
    refine T_skip ?_
    refine T_seq ?_
    refine T_block ?_
    have lt3 : k < (l).length := by first | omega | (simp only [List.length_set, List.length_map, List.length_append, List.length_cons, List.length_nil] at *; omega)
    obtain ⟨x4, hx5⟩ : ∃ x, (l)[k]? = some x := ⟨_, List.getElem?_eq_getElem lt3⟩
    refine T_regE [{}, {}, {}, { d := some (.agg [(I x4.c), (I x4.a)]) }] (mk 19 [(0, (dt (.sl 2 (l.map encPay)))), (3, (dt (I (IntKind.i64.wrap (n + x4.a))))), (4, (dt (I ((k : Nat) : Int)))), (8, (dt (B (decide (((k : Nat) : Int) < ((l.length : Nat) : Int)))))), (11, (dt (I n))), (12, (dt (.sl 2 (l.map encPay)))), (13, (dt (I ((k : Nat) : Int)))), (14, (dt (.ptr [(I x4.c), (I x4.a)]))), (15, (dt (.ptr [(I x4.a)]))), (16, (dt (I x4.a))), (17, (dt (I (IntKind.i64.wrap (n + x4.a)))))] []) (True ∧ True ∧ True ∧ True ∧ True ∧ True ∧ True ∧ (0 ≤ ((k : Nat) : Int) ∧ (l.map encPay)[k]? = some (.agg [(I x4.c), (I x4.a)])) ∧ True ∧ True ∧ True ∧ True ∧ True ∧ True ∧ True ∧ True ∧ True) (by kernel_rfl) ⟨trivial, trivial, trivial, trivial, trivial, trivial, trivial, ⟨by omega, by rw [List.getElem?_map, hx5]; rfl⟩, trivial, trivial, trivial, trivial, trivial, trivial, trivial, trivial, trivial⟩ ?_
    refine T_regE [{}, { d := some (I ((k + 1 : Nat) : Int)) }] (mk 19 [(0, (dt (.sl 2 (l.map encPay)))), (3, (dt (I (IntKind.i64.wrap (n + x4.a))))), (4, (dt (I ((k + 1 : Nat) : Int)))), (8, (dt (B (decide (((k : Nat) : Int) < ((l.length : Nat) : Int)))))), (9, (dt (I ((k : Nat) : Int)))), (10, (dt (I ((k + 1 : Nat) : Int)))), (11, (dt (I n))), (12, (dt (.sl 2 (l.map encPay)))), (13, (dt (I ((k : Nat) : Int)))), (14, (dt (.ptr [(I x4.c), (I x4.a)]))), (15, (dt (.ptr [(I x4.a)]))), (16, (dt (I x4.a))), (17, (dt (I (IntKind.i64.wrap (n + x4.a)))))] []) (True ∧ True ∧ True ∧ (IntKind.i64.wrap (((k : Nat) : Int) + 1) = ((k + 1 : Nat) : Int)) ∧ True ∧ True ∧ True) (by kernel_rfl) ⟨trivial, trivial, trivial, (by rw [i64_wrap (by omega) (by omega)]; omega), trivial, trivial, trivial⟩ ?_
    refine Exists.intro (k + 1, (IntKind.i64.wrap (n + x4.a))) ⟨⟨by omega, by rw [← iv]; exact (sumFrom_drop _ hx5).symm, trivial⟩, by first | omega | (dsimp only; omega), le_turn [] [0, 3, 4] [] (by kernel_rfl)⟩
  · skip
    have g6 : ¬ (((k : Nat) : Int) < ((l.length : Nat) : Int)) := of_decide_eq_false (h1)
    refine T_exit ?_
    refine T_reg [] [2] [] (mk 19 [(2, (dt (I n)))] []) (True ∧ True ∧ True ∧ True ∧ True) (by kernel_rfl) ⟨trivial, trivial, trivial, trivial, trivial⟩ ?_
    refine T_ret ?_
    exact ret_here [(dt (I n))] (by kernel_rfl) (.inl (congrArg I (by rw [← iv, List.drop_eq_nil_of_le (by omega)]; rfl : n = (sumFrom 0 l))))

theorem ret_total (h : House) (hb : h.b.length ≤ 140737488355328) (hh : h.h.length ≤ 140737488355328) (hp : ∀ x ∈ h.h, x.ps.length ≤ 140737488355328) : Ret Try.prog 19 [(.agg [(.sl 2 (h.b.map encPay)), (.sl 4 (h.h.map encHold))])] (I (total h)) := by
  refine Ret.of_T Try.func19 (by kernel_rfl) rfl ?_
  refine T_turn [] [0] [] (mk 25 [(0, (.agg [(.dat (.sl 2 (h.b.map encPay))), (.dat (.sl 4 (h.h.map encHold)))]))] []) (by kernel_rfl) ?_
  refine T_reg [] [1] [] (mk 25 [(1, (.one (.ref 1 0)))] [(1, (.var [(.dat (.sl 2 (h.b.map encPay))), (.dat (.sl 4 (h.h.map encHold)))]))]) (True ∧ True ∧ True ∧ True ∧ True) (by kernel_rfl) ⟨trivial, trivial, trivial, trivial, trivial⟩ ?_
  refine T_reg [{}, {}, { d := some (I (sumFrom 0 h.b)) }] [1, 2] [] (mk 25 [(1, (.one (.ref 1 0))), (2, (dt (I (sumFrom 0 h.b))))] [(1, (.var [(.dat (.sl 2 (h.b.map encPay))), (.dat (.sl 4 (h.h.map encHold)))]))]) (True ∧ True ∧ True ∧ True ∧ True ∧ (Ret Try.prog 38 [(.sl 2 (h.b.map encPay))] (I (sumFrom 0 h.b))) ∧ True ∧ True ∧ True) (by kernel_rfl) ⟨trivial, trivial, trivial, trivial, trivial, (ret_sum _ (by exact hb)), trivial, trivial, trivial⟩ ?_
  refine T_seq ?_
  refine T_reg [{}, {}, { d := some (I ((h.h.length : Nat) : Int)) }] [2, 9, 10, 11] [1] (mk 25 [(2, (dt (I (sumFrom 0 h.b)))), (9, (dt (.sl 4 (h.h.map encHold)))), (10, (dt (I ((h.h.length : Nat) : Int)))), (11, (dt (I 0)))] []) (True ∧ True ∧ True ∧ True ∧ True ∧ (True ∧ D.int .i64 ((h.h.map encHold).length : Int) = (I ((h.h.length : Nat) : Int))) ∧ True ∧ True ∧ True) (by kernel_rfl) ⟨trivial, trivial, trivial, trivial, trivial, ⟨trivial, by rw [List.length_map]⟩, trivial, trivial, trivial⟩ ?_
  refine T_block ?_
  refine T_turn [] [2, 9, 10, 11] [] ((fun ((k, n) : Nat × Int) => (mk 25 [(2, (dt (I n))), (9, (dt (.sl 4 (h.h.map encHold)))), (10, (dt (I ((h.h.length : Nat) : Int)))), (11, (dt (I ((k : Nat) : Int))))] [])) (0, (sumFrom 0 h.b))) (by kernel_rfl) (T_loop (α := Nat × Int) (fun ((k, n) : Nat × Int) => (mk 25 [(2, (dt (I n))), (9, (dt (.sl 4 (h.h.map encHold)))), (10, (dt (I ((h.h.length : Nat) : Int)))), (11, (dt (I ((k : Nat) : Int))))] [])) (fun ((k, n) : Nat × Int) => (k ≤ (h.h).length) ∧ (heldFrom n (h.h.drop k) = total h) ∧ True) (fun ((k, n) : Nat × Int) => (h.h).length - k) (0, (sumFrom 0 h.b)) ⟨Nat.zero_le _, rfl, trivial⟩ ?_)
  rintro ⟨k, n⟩ ⟨ik, iv, _⟩
  refine T_reg [] [2, 9, 10, 11, 12] [] (mk 25 [(2, (dt (I n))), (9, (dt (.sl 4 (h.h.map encHold)))), (10, (dt (I ((h.h.length : Nat) : Int)))), (11, (dt (I ((k : Nat) : Int)))), (12, (dt (B (decide (((k : Nat) : Int) < ((h.h.length : Nat) : Int))))))] []) (True ∧ True ∧ True) (by kernel_rfl) ⟨trivial, trivial, trivial⟩ ?_
  refine T_seq ?_
  refine T_cond (decide (((k : Nat) : Int) < ((h.h.length : Nat) : Int))) (by kernel_rfl) (fun h1 => ?_) (fun h1 => ?_)
  · skip
    have g2 : ((k : Nat) : Int) < ((h.h.length : Nat) : Int) := of_decide_eq_true (h1)
    refine T_skip ?_
    refine T_seq ?_
    refine T_block ?_
    have lt3 : k < (h.h).length := by first | omega | (simp only [List.length_set, List.length_map, List.length_append, List.length_cons, List.length_nil] at *; omega)
    obtain ⟨x4, hx5⟩ : ∃ x, (h.h)[k]? = some x := ⟨_, List.getElem?_eq_getElem lt3⟩
    refine T_reg [{ d := some (.agg [(I x4.t), (I x4.p), (.sl 2 (x4.ps.map encPay)), (I x4.s)]) }] [2, 4, 9, 10, 11] [] (mk 25 [(2, (dt (I n))), (4, (.one (.ref 4 0))), (9, (dt (.sl 4 (h.h.map encHold)))), (10, (dt (I ((h.h.length : Nat) : Int)))), (11, (dt (I ((k : Nat) : Int))))] [(4, (.var [(.dat (I x4.t)), (.dat (I x4.p)), (.dat (.sl 2 (x4.ps.map encPay))), (.dat (I x4.s))]))]) (True ∧ (0 ≤ ((k : Nat) : Int) ∧ (h.h.map encHold)[k]? = some (.agg [(I x4.t), (I x4.p), (.sl 2 (x4.ps.map encPay)), (I x4.s)])) ∧ True ∧ True ∧ True ∧ True ∧ True ∧ True ∧ True) (by kernel_rfl) ⟨trivial, ⟨by omega, by rw [List.getElem?_map, hx5]; rfl⟩, trivial, trivial, trivial, trivial, trivial, trivial, trivial⟩ ?_
    refine T_reg [] [2, 4, 9, 10, 11, 17] [] (mk 25 [(2, (dt (I n))), (4, (.one (.ref 4 0))), (9, (dt (.sl 4 (h.h.map encHold)))), (10, (dt (I ((h.h.length : Nat) : Int)))), (11, (dt (I ((k : Nat) : Int)))), (17, (dt (B (x4.s == 1))))] [(4, (.var [(.dat (I x4.t)), (.dat (I x4.p)), (.dat (.sl 2 (x4.ps.map encPay))), (.dat (I x4.s))]))]) (True ∧ True ∧ True ∧ True ∧ True ∧ True ∧ True) (by kernel_rfl) ⟨trivial, trivial, trivial, trivial, trivial, trivial, trivial⟩ ?_
    refine T_cond (x4.s == 1) (by kernel_rfl) (fun h6 => ?_) (fun h6 => ?_)
    · skip
      have g7 : x4.s = 1 := eq_of_beq (h6)
      refine T_regE [{}, {}, {}, { d := some (I (sumFrom 0 x4.ps)) }] (mk 25 [(2, (dt (I (IntKind.i64.wrap (n + (sumFrom 0 x4.ps)))))), (4, (.one (.ref 4 0))), (9, (dt (.sl 4 (h.h.map encHold)))), (10, (dt (I ((h.h.length : Nat) : Int)))), (11, (dt (I ((k : Nat) : Int)))), (17, (dt (B (x4.s == 1)))), (18, (dt (I n))), (19, (.one (.ref 4 2))), (20, (dt (.sl 2 (x4.ps.map encPay)))), (21, (dt (I (sumFrom 0 x4.ps)))), (22, (dt (I (IntKind.i64.wrap (n + (sumFrom 0 x4.ps))))))] [(4, (.var [(.dat (I x4.t)), (.dat (I x4.p)), (.dat (.sl 2 (x4.ps.map encPay))), (.dat (I x4.s))]))]) (True ∧ True ∧ True ∧ True ∧ True ∧ True ∧ True ∧ (Ret Try.prog 38 [(.sl 2 (x4.ps.map encPay))] (I (sumFrom 0 x4.ps))) ∧ True ∧ True ∧ True ∧ True ∧ True) (by kernel_rfl) ⟨trivial, trivial, trivial, trivial, trivial, trivial, trivial, (ret_sum _ (by exact hp _ (List.mem_of_getElem? (by assumption)))), trivial, trivial, trivial, trivial, trivial⟩ ?_
      refine T_regE [{ d := some (I ((k + 1 : Nat) : Int)) }] (mk 25 [(2, (dt (I (IntKind.i64.wrap (n + (sumFrom 0 x4.ps)))))), (4, (.one (.ref 4 0))), (9, (dt (.sl 4 (h.h.map encHold)))), (10, (dt (I ((h.h.length : Nat) : Int)))), (11, (dt (I ((k + 1 : Nat) : Int)))), (17, (dt (B (x4.s == 1)))), (18, (dt (I n))), (19, (.one (.ref 4 2))), (20, (dt (.sl 2 (x4.ps.map encPay)))), (21, (dt (I (sumFrom 0 x4.ps)))), (22, (dt (I (IntKind.i64.wrap (n + (sumFrom 0 x4.ps)))))), (23, (dt (I ((k + 1 : Nat) : Int))))] [(4, (.var [(.dat (I x4.t)), (.dat (I x4.p)), (.dat (.sl 2 (x4.ps.map encPay))), (.dat (I x4.s))]))]) (True ∧ (IntKind.i64.wrap (((k : Nat) : Int) + 1) = ((k + 1 : Nat) : Int)) ∧ True ∧ True ∧ True) (by kernel_rfl) ⟨trivial, (by rw [i64_wrap (by omega) (by omega)]; omega), trivial, trivial, trivial⟩ ?_
      refine Exists.intro (k + 1, (IntKind.i64.wrap (n + (sumFrom 0 x4.ps)))) ⟨⟨by omega, by rw [← iv, drop_cons hx5]; simp only [heldFrom]; simp_all, trivial⟩, by first | omega | (dsimp only; omega), le_turn [] [2, 9, 10, 11] [4] (by kernel_rfl)⟩
    · skip
      have g8 : x4.s ≠ 1 := ne_of_beq_false (h6)
      refine T_skip ?_
      refine T_regE [{ d := some (I ((k + 1 : Nat) : Int)) }] (mk 25 [(2, (dt (I n))), (4, (.one (.ref 4 0))), (9, (dt (.sl 4 (h.h.map encHold)))), (10, (dt (I ((h.h.length : Nat) : Int)))), (11, (dt (I ((k + 1 : Nat) : Int)))), (17, (dt (B (x4.s == 1)))), (23, (dt (I ((k + 1 : Nat) : Int))))] [(4, (.var [(.dat (I x4.t)), (.dat (I x4.p)), (.dat (.sl 2 (x4.ps.map encPay))), (.dat (I x4.s))]))]) (True ∧ (IntKind.i64.wrap (((k : Nat) : Int) + 1) = ((k + 1 : Nat) : Int)) ∧ True ∧ True ∧ True) (by kernel_rfl) ⟨trivial, (by rw [i64_wrap (by omega) (by omega)]; omega), trivial, trivial, trivial⟩ ?_
      refine Exists.intro (k + 1, n) ⟨⟨by omega, by rw [← iv, drop_cons hx5]; simp only [heldFrom]; simp_all, trivial⟩, by first | omega | (dsimp only; omega), le_turn [] [2, 9, 10, 11] [4] (by kernel_rfl)⟩
  · skip
    have g9 : ¬ (((k : Nat) : Int) < ((h.h.length : Nat) : Int)) := of_decide_eq_false (h1)
    refine T_exit ?_
    refine T_reg [] [2] [] (mk 25 [(2, (dt (I n)))] []) (True ∧ True ∧ True ∧ True ∧ True) (by kernel_rfl) ⟨trivial, trivial, trivial, trivial, trivial⟩ ?_
    refine T_ret ?_
    exact ret_here [(dt (I n))] (by kernel_rfl) (.inl (congrArg I (by rw [← iv, List.drop_eq_nil_of_le (by omega)]; rfl : n = (total h))))

theorem ret_totalR (h : House) (hb : h.b.length ≤ 140737488355328) (hh : h.h.length ≤ 140737488355328) (hp : ∀ x ∈ h.h, x.ps.length ≤ 140737488355328) : Ret Try.prog 20 [(.agg [(.sl 2 (h.b.map encPay)), (.sl 4 (h.h.map encHold))])] (I (total h)) := by
  refine Ret.of_T Try.func20 (by kernel_rfl) rfl ?_
  refine T_turn [] [0] [] (mk 32 [(0, (.agg [(.dat (.sl 2 (h.b.map encPay))), (.dat (.sl 4 (h.h.map encHold)))]))] []) (by kernel_rfl) ?_
  refine T_reg [] [1] [] (mk 32 [(1, (.one (.ref 1 0)))] [(1, (.var [(.dat (.sl 2 (h.b.map encPay))), (.dat (.sl 4 (h.h.map encHold)))]))]) (True ∧ True ∧ True ∧ True ∧ True) (by kernel_rfl) ⟨trivial, trivial, trivial, trivial, trivial⟩ ?_
  refine T_reg [{}, {}, { d := some (I (sumFrom 0 h.b)) }] [1, 3] [] (mk 32 [(1, (.one (.ref 1 0))), (3, (dt (I (sumFrom 0 h.b))))] [(1, (.var [(.dat (.sl 2 (h.b.map encPay))), (.dat (.sl 4 (h.h.map encHold)))]))]) (True ∧ True ∧ True ∧ True ∧ True ∧ (Ret Try.prog 39 [(.sl 2 (h.b.map encPay))] (I (sumFrom 0 h.b))) ∧ True ∧ True ∧ True) (by kernel_rfl) ⟨trivial, trivial, trivial, trivial, trivial, (ret_sumR _ (by exact hb)), trivial, trivial, trivial⟩ ?_
  refine T_seq ?_
  refine T_reg [] [1, 3, 4] [] (mk 32 [(1, (.one (.ref 1 0))), (3, (dt (I (sumFrom 0 h.b)))), (4, (dt (I 0)))] [(1, (.var [(.dat (.sl 2 (h.b.map encPay))), (.dat (.sl 4 (h.h.map encHold)))]))]) (True ∧ True ∧ True) (by kernel_rfl) ⟨trivial, trivial, trivial⟩ ?_
  refine T_block ?_
  refine T_turn [] [1, 3, 4] [] ((fun ((k, n) : Nat × Int) => (mk 32 [(1, (.one (.ref 1 0))), (3, (dt (I n))), (4, (dt (I ((k : Nat) : Int))))] [(1, (.var [(.dat (.sl 2 (h.b.map encPay))), (.dat (.sl 4 (h.h.map encHold)))]))])) (0, (sumFrom 0 h.b))) (by kernel_rfl) (T_loop (α := Nat × Int) (fun ((k, n) : Nat × Int) => (mk 32 [(1, (.one (.ref 1 0))), (3, (dt (I n))), (4, (dt (I ((k : Nat) : Int))))] [(1, (.var [(.dat (.sl 2 (h.b.map encPay))), (.dat (.sl 4 (h.h.map encHold)))]))])) (fun ((k, n) : Nat × Int) => (k ≤ (h.h).length) ∧ (heldFrom n (h.h.drop k) = total h) ∧ True) (fun ((k, n) : Nat × Int) => (h.h).length - k) (0, (sumFrom 0 h.b)) ⟨Nat.zero_le _, rfl, trivial⟩ ?_)
  rintro ⟨k, n⟩ ⟨ik, iv, _⟩
  refine T_seq ?_
  refine T_reg [{}, {}, {}, { d := some (I ((h.h.length : Nat) : Int)) }] [1, 3, 4, 12] [] (mk 32 [(1, (.one (.ref 1 0))), (3, (dt (I n))), (4, (dt (I ((k : Nat) : Int)))), (12, (dt (B (decide (((k : Nat) : Int) < ((h.h.length : Nat) : Int))))))] [(1, (.var [(.dat (.sl 2 (h.b.map encPay))), (.dat (.sl 4 (h.h.map encHold)))]))]) (True ∧ True ∧ True ∧ True ∧ True ∧ True ∧ True ∧ (True ∧ D.int .i64 ((h.h.map encHold).length : Int) = (I ((h.h.length : Nat) : Int))) ∧ True ∧ True ∧ True) (by kernel_rfl) ⟨trivial, trivial, trivial, trivial, trivial, trivial, trivial, ⟨trivial, by rw [List.length_map]⟩, trivial, trivial, trivial⟩ ?_
  refine T_cond (decide (((k : Nat) : Int) < ((h.h.length : Nat) : Int))) (by kernel_rfl) (fun h1 => ?_) (fun h1 => ?_)
  · skip
    have g2 : ((k : Nat) : Int) < ((h.h.length : Nat) : Int) := of_decide_eq_true (h1)
    refine T_skip ?_
    refine T_seq ?_
    refine T_block ?_
    have lt3 : k < (h.h).length := by first | omega | (simp only [List.length_set, List.length_map, List.length_append, List.length_cons, List.length_nil] at *; omega)
    obtain ⟨x4, hx5⟩ : ∃ x, (h.h)[k]? = some x := ⟨_, List.getElem?_eq_getElem lt3⟩
    refine T_reg [{}, {}, {}, { d := some (.agg [(I x4.t), (I x4.p), (.sl 2 (x4.ps.map encPay)), (I x4.s)]) }] [1, 3, 4, 21] [] (mk 32 [(1, (.one (.ref 1 0))), (3, (dt (I n))), (4, (dt (I ((k : Nat) : Int)))), (21, (dt (B (x4.s == 1))))] [(1, (.var [(.dat (.sl 2 (h.b.map encPay))), (.dat (.sl 4 (h.h.map encHold)))]))]) (True ∧ True ∧ True ∧ True ∧ True ∧ True ∧ True ∧ (0 ≤ ((k : Nat) : Int) ∧ (h.h.map encHold)[k]? = some (.agg [(I x4.t), (I x4.p), (.sl 2 (x4.ps.map encPay)), (I x4.s)])) ∧ True ∧ True ∧ True ∧ True ∧ True ∧ True ∧ True) (by kernel_rfl) ⟨trivial, trivial, trivial, trivial, trivial, trivial, trivial, ⟨by omega, by rw [List.getElem?_map, hx5]; rfl⟩, trivial, trivial, trivial, trivial, trivial, trivial, trivial⟩ ?_
    refine T_cond (x4.s == 1) (by kernel_rfl) (fun h6 => ?_) (fun h6 => ?_)
    · skip
      have g7 : x4.s = 1 := eq_of_beq (h6)
      refine T_regE [{}, {}, {}, {}, { d := some (.agg [(I x4.t), (I x4.p), (.sl 2 (x4.ps.map encPay)), (I x4.s)]) }, {}, {}, { d := some (I (sumFrom 0 x4.ps)) }] (mk 32 [(1, (.one (.ref 1 0))), (3, (dt (I (IntKind.i64.wrap (n + (sumFrom 0 x4.ps)))))), (4, (dt (I ((k : Nat) : Int)))), (21, (dt (B (x4.s == 1)))), (22, (dt (I n))), (23, (.one (.ref 1 1))), (24, (dt (.sl 4 (h.h.map encHold)))), (25, (dt (I ((k : Nat) : Int)))), (26, (dt (.ptr [(I x4.t), (I x4.p), (.sl 2 (x4.ps.map encPay)), (I x4.s)]))), (27, (dt (.ptr [(.sl 2 (x4.ps.map encPay)), (I x4.s)]))), (28, (dt (.sl 2 (x4.ps.map encPay)))), (29, (dt (I (sumFrom 0 x4.ps)))), (30, (dt (I (IntKind.i64.wrap (n + (sumFrom 0 x4.ps))))))] [(1, (.var [(.dat (.sl 2 (h.b.map encPay))), (.dat (.sl 4 (h.h.map encHold)))]))]) (True ∧ True ∧ True ∧ True ∧ True ∧ True ∧ True ∧ True ∧ True ∧ (0 ≤ ((k : Nat) : Int) ∧ (h.h.map encHold)[k]? = some (.agg [(I x4.t), (I x4.p), (.sl 2 (x4.ps.map encPay)), (I x4.s)])) ∧ True ∧ True ∧ True ∧ True ∧ True ∧ (Ret Try.prog 39 [(.sl 2 (x4.ps.map encPay))] (I (sumFrom 0 x4.ps))) ∧ True ∧ True ∧ True ∧ True ∧ True) (by kernel_rfl) ⟨trivial, trivial, trivial, trivial, trivial, trivial, trivial, trivial, trivial, ⟨by omega, by rw [List.getElem?_map, hx5]; rfl⟩, trivial, trivial, trivial, trivial, trivial, (ret_sumR _ (by exact hp _ (List.mem_of_getElem? (by assumption)))), trivial, trivial, trivial, trivial, trivial⟩ ?_
      refine T_regE [{}, { d := some (I ((k + 1 : Nat) : Int)) }] (mk 32 [(1, (.one (.ref 1 0))), (3, (dt (I (IntKind.i64.wrap (n + (sumFrom 0 x4.ps)))))), (4, (dt (I ((k + 1 : Nat) : Int)))), (13, (dt (I ((k : Nat) : Int)))), (14, (dt (I ((k + 1 : Nat) : Int)))), (21, (dt (B (x4.s == 1)))), (22, (dt (I n))), (23, (.one (.ref 1 1))), (24, (dt (.sl 4 (h.h.map encHold)))), (25, (dt (I ((k : Nat) : Int)))), (26, (dt (.ptr [(I x4.t), (I x4.p), (.sl 2 (x4.ps.map encPay)), (I x4.s)]))), (27, (dt (.ptr [(.sl 2 (x4.ps.map encPay)), (I x4.s)]))), (28, (dt (.sl 2 (x4.ps.map encPay)))), (29, (dt (I (sumFrom 0 x4.ps)))), (30, (dt (I (IntKind.i64.wrap (n + (sumFrom 0 x4.ps))))))] [(1, (.var [(.dat (.sl 2 (h.b.map encPay))), (.dat (.sl 4 (h.h.map encHold)))]))]) (True ∧ True ∧ True ∧ (IntKind.i64.wrap (((k : Nat) : Int) + 1) = ((k + 1 : Nat) : Int)) ∧ True ∧ True ∧ True) (by kernel_rfl) ⟨trivial, trivial, trivial, (by rw [i64_wrap (by omega) (by omega)]; omega), trivial, trivial, trivial⟩ ?_
      refine Exists.intro (k + 1, (IntKind.i64.wrap (n + (sumFrom 0 x4.ps)))) ⟨⟨by omega, by rw [← iv, drop_cons hx5]; simp only [heldFrom]; simp_all, trivial⟩, by first | omega | (dsimp only; omega), le_turn [] [1, 3, 4] [] (by kernel_rfl)⟩
    · skip
      have g8 : x4.s ≠ 1 := ne_of_beq_false (h6)
      refine T_skip ?_
      refine T_regE [{}, { d := some (I ((k + 1 : Nat) : Int)) }] (mk 32 [(1, (.one (.ref 1 0))), (3, (dt (I n))), (4, (dt (I ((k + 1 : Nat) : Int)))), (13, (dt (I ((k : Nat) : Int)))), (14, (dt (I ((k + 1 : Nat) : Int)))), (21, (dt (B (x4.s == 1))))] [(1, (.var [(.dat (.sl 2 (h.b.map encPay))), (.dat (.sl 4 (h.h.map encHold)))]))]) (True ∧ True ∧ True ∧ (IntKind.i64.wrap (((k : Nat) : Int) + 1) = ((k + 1 : Nat) : Int)) ∧ True ∧ True ∧ True) (by kernel_rfl) ⟨trivial, trivial, trivial, (by rw [i64_wrap (by omega) (by omega)]; omega), trivial, trivial, trivial⟩ ?_
      refine Exists.intro (k + 1, n) ⟨⟨by omega, by rw [← iv, drop_cons hx5]; simp only [heldFrom]; simp_all, trivial⟩, by first | omega | (dsimp only; omega), le_turn [] [1, 3, 4] [] (by kernel_rfl)⟩
  · skip
    have g9 : ¬ (((k : Nat) : Int) < ((h.h.length : Nat) : Int)) := of_decide_eq_false (h1)
    refine T_exit ?_
    refine T_reg [] [2] [1] (mk 32 [(2, (dt (I n)))] []) (True ∧ True ∧ True ∧ True ∧ True) (by kernel_rfl) ⟨trivial, trivial, trivial, trivial, trivial⟩ ?_
    refine T_ret ?_
    exact ret_here [(dt (I n))] (by kernel_rfl) (.inl (congrArg I (by rw [← iv, List.drop_eq_nil_of_le (by omega)]; rfl : n = (total h))))

theorem ret_balance (h : House) (c : Int) (hb : h.b.length ≤ 140737488355328) : Ret Try.prog 14 [(.agg [(.sl 2 (h.b.map encPay)), (.sl 4 (h.h.map encHold))]), (I c)] (.tup [(I (bal c h.b).1), (B ((bal c h.b).2))]) := by
  refine Ret.of_T Try.func14 (by kernel_rfl) rfl ?_
  refine T_turn [] [0, 1] [] (mk 22 [(0, (.agg [(.dat (.sl 2 (h.b.map encPay))), (.dat (.sl 4 (h.h.map encHold)))])), (1, (dt (I c)))] []) (by kernel_rfl) ?_
  refine T_reg [] [1, 2] [] (mk 22 [(1, (dt (I c))), (2, (.one (.ref 2 0)))] [(2, (.var [(.dat (.sl 2 (h.b.map encPay))), (.dat (.sl 4 (h.h.map encHold)))]))]) (True ∧ True ∧ True ∧ True ∧ True ∧ True ∧ True) (by kernel_rfl) ⟨trivial, trivial, trivial, trivial, trivial, trivial, trivial⟩ ?_
  refine T_seq ?_
  refine T_reg [{}, {}, { d := some (I ((h.b.length : Nat) : Int)) }] [1, 9, 10, 11] [2] (mk 22 [(1, (dt (I c))), (9, (dt (.sl 2 (h.b.map encPay)))), (10, (dt (I ((h.b.length : Nat) : Int)))), (11, (dt (I 0)))] []) (True ∧ True ∧ True ∧ True ∧ True ∧ (True ∧ D.int .i64 ((h.b.map encPay).length : Int) = (I ((h.b.length : Nat) : Int))) ∧ True ∧ True ∧ True) (by kernel_rfl) ⟨trivial, trivial, trivial, trivial, trivial, ⟨trivial, by rw [List.length_map]⟩, trivial, trivial, trivial⟩ ?_
  refine T_block ?_
  refine T_turn [] [1, 9, 10, 11] [] ((fun (k : Nat) => (mk 22 [(1, (dt (I c))), (9, (dt (.sl 2 (h.b.map encPay)))), (10, (dt (I ((h.b.length : Nat) : Int)))), (11, (dt (I ((k : Nat) : Int))))] [])) (0)) (by kernel_rfl) (T_loop (α := Nat) (fun (k : Nat) => (mk 22 [(1, (dt (I c))), (9, (dt (.sl 2 (h.b.map encPay)))), (10, (dt (I ((h.b.length : Nat) : Int)))), (11, (dt (I ((k : Nat) : Int))))] [])) (fun (k : Nat) => (k ≤ (h.b).length) ∧ (bal c (h.b.drop k) = bal c h.b) ∧ True) (fun (k : Nat) => (h.b).length - k) (0) ⟨Nat.zero_le _, rfl, trivial⟩ ?_)
  rintro k ⟨ik, iv, _⟩
  refine T_reg [] [1, 9, 10, 11, 12] [] (mk 22 [(1, (dt (I c))), (9, (dt (.sl 2 (h.b.map encPay)))), (10, (dt (I ((h.b.length : Nat) : Int)))), (11, (dt (I ((k : Nat) : Int)))), (12, (dt (B (decide (((k : Nat) : Int) < ((h.b.length : Nat) : Int))))))] []) (True ∧ True ∧ True) (by kernel_rfl) ⟨trivial, trivial, trivial⟩ ?_
  refine T_seq ?_
  refine T_cond (decide (((k : Nat) : Int) < ((h.b.length : Nat) : Int))) (by kernel_rfl) (fun h1 => ?_) (fun h1 => ?_)
  · skip
    have g2 : ((k : Nat) : Int) < ((h.b.length : Nat) : Int) := of_decide_eq_true (h1)
    refine T_skip ?_
    refine T_seq ?_
    refine T_block ?_
    have lt3 : k < (h.b).length := by first | omega | (simp only [List.length_set, List.length_map, List.length_append, List.length_cons, List.length_nil] at *; omega)
    obtain ⟨x4, hx5⟩ : ∃ x, (h.b)[k]? = some x := ⟨_, List.getElem?_eq_getElem lt3⟩
    refine T_reg [{ d := some (.agg [(I x4.c), (I x4.a)]) }] [1, 7, 9, 10, 11] [] (mk 22 [(1, (dt (I c))), (7, (.one (.ref 7 0))), (9, (dt (.sl 2 (h.b.map encPay)))), (10, (dt (I ((h.b.length : Nat) : Int)))), (11, (dt (I ((k : Nat) : Int))))] [(7, (.var [(.dat (I x4.c)), (.dat (I x4.a))]))]) (True ∧ (0 ≤ ((k : Nat) : Int) ∧ (h.b.map encPay)[k]? = some (.agg [(I x4.c), (I x4.a)])) ∧ True ∧ True ∧ True ∧ True ∧ True ∧ True ∧ True) (by kernel_rfl) ⟨trivial, ⟨by omega, by rw [List.getElem?_map, hx5]; rfl⟩, trivial, trivial, trivial, trivial, trivial, trivial, trivial⟩ ?_
    refine T_reg [] [1, 7, 9, 10, 11, 18] [] (mk 22 [(1, (dt (I c))), (7, (.one (.ref 7 0))), (9, (dt (.sl 2 (h.b.map encPay)))), (10, (dt (I ((h.b.length : Nat) : Int)))), (11, (dt (I ((k : Nat) : Int)))), (18, (dt (B (x4.c == c))))] [(7, (.var [(.dat (I x4.c)), (.dat (I x4.a))]))]) (True ∧ True ∧ True ∧ True ∧ True ∧ True ∧ True ∧ True ∧ True) (by kernel_rfl) ⟨trivial, trivial, trivial, trivial, trivial, trivial, trivial, trivial, trivial⟩ ?_
    refine T_cond (x4.c == c) (by kernel_rfl) (fun h6 => ?_) (fun h6 => ?_)
    · skip
      have g7 : x4.c = c := eq_of_beq (h6)
      refine T_reg [] [4, 5] [7] (mk 22 [(4, (dt (I x4.a))), (5, (dt (B true)))] []) (True ∧ True ∧ True ∧ True ∧ True ∧ True ∧ True ∧ True ∧ True) (by kernel_rfl) ⟨trivial, trivial, trivial, trivial, trivial, trivial, trivial, trivial, trivial⟩ ?_
      refine T_ret ?_
      exact ret_here [(dt (I x4.a)), (dt (B true))] (by kernel_rfl) ⟨(.inl (congrArg I (by rw [← iv]; first | (rw [List.drop_eq_nil_of_le (by omega)]; rfl) | (rw [drop_cons (by assumption)]; simp_all [bal]) : x4.a = (bal c h.b).1))), (.inl (congrArg B (by rw [← iv]; first | (rw [List.drop_eq_nil_of_le (by omega)]; rfl) | (rw [drop_cons (by assumption)]; simp_all [bal]) : true = ((bal c h.b).2)))), trivial⟩
    · skip
      have g8 : x4.c ≠ c := ne_of_beq_false (h6)
      refine T_skip ?_
      refine T_regE [{ d := some (I ((k + 1 : Nat) : Int)) }] (mk 22 [(1, (dt (I c))), (7, (.one (.ref 7 0))), (9, (dt (.sl 2 (h.b.map encPay)))), (10, (dt (I ((h.b.length : Nat) : Int)))), (11, (dt (I ((k + 1 : Nat) : Int)))), (18, (dt (B (x4.c == c)))), (21, (dt (I ((k + 1 : Nat) : Int))))] [(7, (.var [(.dat (I x4.c)), (.dat (I x4.a))]))]) (True ∧ (IntKind.i64.wrap (((k : Nat) : Int) + 1) = ((k + 1 : Nat) : Int)) ∧ True ∧ True ∧ True) (by kernel_rfl) ⟨trivial, (by rw [i64_wrap (by omega) (by omega)]; omega), trivial, trivial, trivial⟩ ?_
      refine Exists.intro (k + 1) ⟨⟨by omega, by rw [← iv, drop_cons hx5]; simp_all [bal], trivial⟩, by first | omega | (dsimp only; omega), le_turn [] [1, 9, 10, 11] [7] (by kernel_rfl)⟩
  · skip
    have g9 : ¬ (((k : Nat) : Int) < ((h.b.length : Nat) : Int)) := of_decide_eq_false (h1)
    refine T_exit ?_
    refine T_reg [] [4, 5] [] (mk 22 [(4, (dt (I 0))), (5, (dt (B false)))] []) (True ∧ True ∧ True ∧ True ∧ True) (by kernel_rfl) ⟨trivial, trivial, trivial, trivial, trivial⟩ ?_
    refine T_ret ?_
    exact ret_here [(dt (I 0)), (dt (B false))] (by kernel_rfl) ⟨(.inl (congrArg I (by rw [← iv]; first | (rw [List.drop_eq_nil_of_le (by omega)]; rfl) | (rw [drop_cons (by assumption)]; simp_all [bal]) : 0 = (bal c h.b).1))), (.inl (congrArg B (by rw [← iv]; first | (rw [List.drop_eq_nil_of_le (by omega)]; rfl) | (rw [drop_cons (by assumption)]; simp_all [bal]) : false = ((bal c h.b).2)))), trivial⟩

theorem ret_balanceR (h : House) (c : Int) (hb : h.b.length ≤ 140737488355328) : Ret Try.prog 15 [(.agg [(.sl 2 (h.b.map encPay)), (.sl 4 (h.h.map encHold))]), (I c)] (.tup [(I (bal c h.b).1), (B ((bal c h.b).2))]) := by
  refine Ret.of_T Try.func15 (by kernel_rfl) rfl ?_
  refine T_turn [] [0, 1] [] (mk 28 [(0, (.agg [(.dat (.sl 2 (h.b.map encPay))), (.dat (.sl 4 (h.h.map encHold)))])), (1, (dt (I c)))] []) (by kernel_rfl) ?_
  refine T_reg [] [1, 2] [] (mk 28 [(1, (dt (I c))), (2, (.one (.ref 2 0)))] [(2, (.var [(.dat (.sl 2 (h.b.map encPay))), (.dat (.sl 4 (h.h.map encHold)))]))]) (True ∧ True ∧ True ∧ True ∧ True ∧ True ∧ True) (by kernel_rfl) ⟨trivial, trivial, trivial, trivial, trivial, trivial, trivial⟩ ?_
  refine T_seq ?_
  refine T_reg [] [1, 2, 6] [] (mk 28 [(1, (dt (I c))), (2, (.one (.ref 2 0))), (6, (dt (I 0)))] [(2, (.var [(.dat (.sl 2 (h.b.map encPay))), (.dat (.sl 4 (h.h.map encHold)))]))]) (True ∧ True ∧ True) (by kernel_rfl) ⟨trivial, trivial, trivial⟩ ?_
  refine T_block ?_
  refine T_turn [] [1, 2, 6] [] ((fun (k : Nat) => (mk 28 [(1, (dt (I c))), (2, (.one (.ref 2 0))), (6, (dt (I ((k : Nat) : Int))))] [(2, (.var [(.dat (.sl 2 (h.b.map encPay))), (.dat (.sl 4 (h.h.map encHold)))]))])) (0)) (by kernel_rfl) (T_loop (α := Nat) (fun (k : Nat) => (mk 28 [(1, (dt (I c))), (2, (.one (.ref 2 0))), (6, (dt (I ((k : Nat) : Int))))] [(2, (.var [(.dat (.sl 2 (h.b.map encPay))), (.dat (.sl 4 (h.h.map encHold)))]))])) (fun (k : Nat) => (k ≤ (h.b).length) ∧ (bal c (h.b.drop k) = bal c h.b) ∧ True) (fun (k : Nat) => (h.b).length - k) (0) ⟨Nat.zero_le _, rfl, trivial⟩ ?_)
  rintro k ⟨ik, iv, _⟩
  refine T_seq ?_
  refine T_reg [{}, {}, {}, { d := some (I ((h.b.length : Nat) : Int)) }] [1, 2, 6, 11] [] (mk 28 [(1, (dt (I c))), (2, (.one (.ref 2 0))), (6, (dt (I ((k : Nat) : Int)))), (11, (dt (B (decide (((k : Nat) : Int) < ((h.b.length : Nat) : Int))))))] [(2, (.var [(.dat (.sl 2 (h.b.map encPay))), (.dat (.sl 4 (h.h.map encHold)))]))]) (True ∧ True ∧ True ∧ True ∧ True ∧ True ∧ True ∧ (True ∧ D.int .i64 ((h.b.map encPay).length : Int) = (I ((h.b.length : Nat) : Int))) ∧ True ∧ True ∧ True) (by kernel_rfl) ⟨trivial, trivial, trivial, trivial, trivial, trivial, trivial, ⟨trivial, by rw [List.length_map]⟩, trivial, trivial, trivial⟩ ?_
  refine T_cond (decide (((k : Nat) : Int) < ((h.b.length : Nat) : Int))) (by kernel_rfl) (fun h1 => ?_) (fun h1 => ?_)
  · skip
    have g2 : ((k : Nat) : Int) < ((h.b.length : Nat) : Int) := of_decide_eq_true (h1)
    refine T_skip ?_
    refine T_seq ?_
    refine T_block ?_
    have lt3 : k < (h.b).length := by first | omega | (simp only [List.length_set, List.length_map, List.length_append, List.length_cons, List.length_nil] at *; omega)
    obtain ⟨x4, hx5⟩ : ∃ x, (h.b)[k]? = some x := ⟨_, List.getElem?_eq_getElem lt3⟩
    refine T_reg [{}, {}, {}, { d := some (.agg [(I x4.c), (I x4.a)]) }] [1, 2, 6, 21] [] (mk 28 [(1, (dt (I c))), (2, (.one (.ref 2 0))), (6, (dt (I ((k : Nat) : Int)))), (21, (dt (B (x4.c == c))))] [(2, (.var [(.dat (.sl 2 (h.b.map encPay))), (.dat (.sl 4 (h.h.map encHold)))]))]) (True ∧ True ∧ True ∧ True ∧ True ∧ True ∧ True ∧ (0 ≤ ((k : Nat) : Int) ∧ (h.b.map encPay)[k]? = some (.agg [(I x4.c), (I x4.a)])) ∧ True ∧ True ∧ True ∧ True ∧ True ∧ True ∧ True ∧ True ∧ True) (by kernel_rfl) ⟨trivial, trivial, trivial, trivial, trivial, trivial, trivial, ⟨by omega, by rw [List.getElem?_map, hx5]; rfl⟩, trivial, trivial, trivial, trivial, trivial, trivial, trivial, trivial, trivial⟩ ?_
    refine T_cond (x4.c == c) (by kernel_rfl) (fun h6 => ?_) (fun h6 => ?_)
    · skip
      have g7 : x4.c = c := eq_of_beq (h6)
      refine T_reg [{}, {}, {}, { d := some (.agg [(I x4.c), (I x4.a)]) }] [4, 5] [2] (mk 28 [(4, (dt (I x4.a))), (5, (dt (B true)))] []) (True ∧ True ∧ True ∧ True ∧ True ∧ True ∧ True ∧ (0 ≤ ((k : Nat) : Int) ∧ (h.b.map encPay)[k]? = some (.agg [(I x4.c), (I x4.a)])) ∧ True ∧ True ∧ True ∧ True ∧ True ∧ True ∧ True ∧ True ∧ True) (by kernel_rfl) ⟨trivial, trivial, trivial, trivial, trivial, trivial, trivial, ⟨by omega, by rw [List.getElem?_map, hx5]; rfl⟩, trivial, trivial, trivial, trivial, trivial, trivial, trivial, trivial, trivial⟩ ?_
      refine T_ret ?_
      exact ret_here [(dt (I x4.a)), (dt (B true))] (by kernel_rfl) ⟨(.inl (congrArg I (by rw [← iv]; first | (rw [List.drop_eq_nil_of_le (by omega)]; rfl) | (rw [drop_cons (by assumption)]; simp_all [bal]) : x4.a = (bal c h.b).1))), (.inl (congrArg B (by rw [← iv]; first | (rw [List.drop_eq_nil_of_le (by omega)]; rfl) | (rw [drop_cons (by assumption)]; simp_all [bal]) : true = ((bal c h.b).2)))), trivial⟩
    · skip
      have g8 : x4.c ≠ c := ne_of_beq_false (h6)
      refine T_skip ?_
      refine T_regE [{}, { d := some (I ((k + 1 : Nat) : Int)) }] (mk 28 [(1, (dt (I c))), (2, (.one (.ref 2 0))), (6, (dt (I ((k + 1 : Nat) : Int)))), (12, (dt (I ((k : Nat) : Int)))), (13, (dt (I ((k + 1 : Nat) : Int)))), (21, (dt (B (x4.c == c))))] [(2, (.var [(.dat (.sl 2 (h.b.map encPay))), (.dat (.sl 4 (h.h.map encHold)))]))]) (True ∧ True ∧ True ∧ (IntKind.i64.wrap (((k : Nat) : Int) + 1) = ((k + 1 : Nat) : Int)) ∧ True ∧ True ∧ True) (by kernel_rfl) ⟨trivial, trivial, trivial, (by rw [i64_wrap (by omega) (by omega)]; omega), trivial, trivial, trivial⟩ ?_
      refine Exists.intro (k + 1) ⟨⟨by omega, by rw [← iv, drop_cons hx5]; simp_all [bal], trivial⟩, by first | omega | (dsimp only; omega), le_turn [] [1, 2, 6] [] (by kernel_rfl)⟩
  · skip
    have g9 : ¬ (((k : Nat) : Int) < ((h.b.length : Nat) : Int)) := of_decide_eq_false (h1)
    refine T_exit ?_
    refine T_reg [] [4, 5] [2] (mk 28 [(4, (dt (I 0))), (5, (dt (B false)))] []) (True ∧ True ∧ True ∧ True ∧ True) (by kernel_rfl) ⟨trivial, trivial, trivial, trivial, trivial⟩ ?_
    refine T_ret ?_
    exact ret_here [(dt (I 0)), (dt (B false))] (by kernel_rfl) ⟨(.inl (congrArg I (by rw [← iv]; first | (rw [List.drop_eq_nil_of_le (by omega)]; rfl) | (rw [drop_cons (by assumption)]; simp_all [bal]) : 0 = (bal c h.b).1))), (.inl (congrArg B (by rw [← iv]; first | (rw [List.drop_eq_nil_of_le (by omega)]; rfl) | (rw [drop_cons (by assumption)]; simp_all [bal]) : false = ((bal c h.b).2)))), trivial⟩

theorem ret_areClubs (l : List Int) (hl : l.length ≤ 140737488355328) : Ret Try.prog 33 [(.sl 1 (l.map encI))] (B (areClubs l)) := by
  refine Ret.of_T Try.func33 (by kernel_rfl) rfl ?_
  refine T_turn [] [0] [] (mk 35 [(0, (dt (.sl 1 (l.map encI))))] []) (by kernel_rfl) ?_
  refine T_reg [] [0] [] (mk 35 [(0, (dt (.sl 1 (l.map encI))))] []) (True ∧ True ∧ True) (by kernel_rfl) ⟨trivial, trivial, trivial⟩ ?_
  refine T_seq ?_
  refine T_reg [{}, { d := some (I ((l.length : Nat) : Int)) }] [0, 5, 6, 7] [] (mk 35 [(0, (dt (.sl 1 (l.map encI)))), (5, (dt (.sl 1 (l.map encI)))), (6, (dt (I ((l.length : Nat) : Int)))), (7, (dt (I 0)))] []) (True ∧ True ∧ True ∧ (True ∧ D.int .i64 ((l.map encI).length : Int) = (I ((l.length : Nat) : Int))) ∧ True ∧ True ∧ True) (by kernel_rfl) ⟨trivial, trivial, trivial, ⟨trivial, by rw [List.length_map]⟩, trivial, trivial, trivial⟩ ?_
  refine T_block ?_
  refine T_turn [] [0, 5, 6, 7] [] ((fun ((k, p) : Nat × Int) => (mk 35 [(0, (dt (.sl 1 (l.map encI)))), (5, (dt (.sl 1 (l.map encI)))), (6, (dt (I ((l.length : Nat) : Int)))), (7, (dt (I ((k : Nat) : Int))))] [])) (0, (-1))) (by kernel_rfl) (T_loop (α := Nat × Int) (fun ((k, p) : Nat × Int) => (mk 35 [(0, (dt (.sl 1 (l.map encI)))), (5, (dt (.sl 1 (l.map encI)))), (6, (dt (I ((l.length : Nat) : Int)))), (7, (dt (I ((k : Nat) : Int))))] [])) (fun ((k, p) : Nat × Int) => (k ≤ (l).length) ∧ (incFrom p (l.drop k) = incFrom (-1) l) ∧ (k = 0 → p = -1) ∧ (0 < k → l[k - 1]? = some p) ∧ True) (fun ((k, p) : Nat × Int) => (l).length - k) (0, (-1)) ⟨Nat.zero_le _, rfl, fun _ => rfl, fun h => absurd h (Nat.lt_irrefl _), trivial⟩ ?_)
  rintro ⟨k, p⟩ ⟨ik, iv, ip, ip2, _⟩
  refine T_reg [] [0, 5, 6, 7, 8] [] (mk 35 [(0, (dt (.sl 1 (l.map encI)))), (5, (dt (.sl 1 (l.map encI)))), (6, (dt (I ((l.length : Nat) : Int)))), (7, (dt (I ((k : Nat) : Int)))), (8, (dt (B (decide (((k : Nat) : Int) < ((l.length : Nat) : Int))))))] []) (True ∧ True ∧ True) (by kernel_rfl) ⟨trivial, trivial, trivial⟩ ?_
  refine T_seq ?_
  refine T_cond (decide (((k : Nat) : Int) < ((l.length : Nat) : Int))) (by kernel_rfl) (fun h1 => ?_) (fun h1 => ?_)
  · skip
    have g2 : ((k : Nat) : Int) < ((l.length : Nat) : Int) := of_decide_eq_true (h1)
    refine T_skip ?_
    refine T_seq ?_
    refine T_block ?_
    have lt3 : k < (l).length := by first | omega | (simp only [List.length_set, List.length_map, List.length_append, List.length_cons, List.length_nil] at *; omega)
    obtain ⟨x4, hx5⟩ : ∃ x, (l)[k]? = some x := ⟨_, List.getElem?_eq_getElem lt3⟩
    refine T_reg [{}, { d := some (I x4) }] [0, 3, 4, 5, 6, 7] [] (mk 35 [(0, (dt (.sl 1 (l.map encI)))), (3, (dt (I ((k : Nat) : Int)))), (4, (dt (I x4))), (5, (dt (.sl 1 (l.map encI)))), (6, (dt (I ((l.length : Nat) : Int)))), (7, (dt (I ((k : Nat) : Int))))] []) (True ∧ True ∧ True ∧ (0 ≤ ((k : Nat) : Int) ∧ (l.map encI)[k]? = some (I x4)) ∧ True ∧ True ∧ True ∧ True ∧ True ∧ True ∧ True) (by kernel_rfl) ⟨trivial, trivial, trivial, ⟨by omega, by rw [List.getElem?_map, hx5]; rfl⟩, trivial, trivial, trivial, trivial, trivial, trivial, trivial⟩ ?_
    rcases Bool.eq_false_or_eq_true (decide (x4 < 0)) with h6 | h6
    · skip
      have g7 : x4 < 0 := of_decide_eq_true (h6)
      refine T_reg [{}, {}, {}, { g := false }, { g := false }, { d := some (B true) }, {}, { g := false }, { g := false }, { g := false }, {}, {}, {}, {}, {}, {}, {}, { g := false }, { d := some (B true) }] [0, 5, 6, 7, 30] [] (mk 35 [(0, (dt (.sl 1 (l.map encI)))), (5, (dt (.sl 1 (l.map encI)))), (6, (dt (I ((l.length : Nat) : Int)))), (7, (dt (I ((k : Nat) : Int)))), (30, (dt (B true)))] []) (True ∧ True ∧ True ∧ True ∧ True ∧ True ∧ (((decide (x4 < 0)) == false) = false) ∧ (((decide (x4 < 0)) == false) = false) ∧ True ∧ ((decide (x4 < 0)) = true) ∧ True ∧ True ∧ ((true == false) = false) ∧ ((true == false) = false) ∧ ((true == false) = false) ∧ True ∧ True ∧ True ∧ True ∧ True ∧ True ∧ True ∧ ((true == false) = false) ∧ True ∧ (true = true) ∧ True) (by kernel_rfl) ⟨trivial, trivial, trivial, trivial, trivial, trivial, (by rw [show (decide (x4 < 0)) = true from h6]; rfl), (by rw [show (decide (x4 < 0)) = true from h6]; rfl), trivial, h6, trivial, trivial, (by rw [show true = true from rfl]; rfl), (by rw [show true = true from rfl]; rfl), (by rw [show true = true from rfl]; rfl), trivial, trivial, trivial, trivial, trivial, trivial, trivial, (by rw [show true = true from rfl]; rfl), trivial, rfl, trivial⟩ ?_
      refine T_cond true (by kernel_rfl) (fun _ => ?_) (fun h => absurd (h.symm.trans rfl) (by decide))
      refine T_reg [] [2] [] (mk 35 [(2, (dt (B false)))] []) (True ∧ True ∧ True) (by kernel_rfl) ⟨trivial, trivial, trivial⟩ ?_
      refine T_ret ?_
      exact ret_here [(dt (B false))] (by kernel_rfl) (.inl (congrArg B (by first | (rw [areClubs, ← iv, List.drop_eq_nil_of_le (by omega)]; simp [incFrom]; done) | (rw [areClubs, ← iv, drop_cons (by assumption), incFrom, if_pos (by omega)]; rfl) : false = (areClubs l))))
    · skip
      have g8 : ¬ (x4 < 0) := of_decide_eq_false (h6)
      rcases Bool.eq_false_or_eq_true (decide (x4 ≥ 192)) with h9 | h9
      · skip
        have g10 : x4 ≥ 192 := of_decide_eq_true (h9)
        refine T_reg [{}, {}, {}, {}, {}, { d := some (B false) }, {}, { g := false }, { g := false }, { g := false }, {}, {}, {}, {}, {}, {}, {}, { g := false }, { d := some (B true) }] [0, 5, 6, 7, 30] [] (mk 35 [(0, (dt (.sl 1 (l.map encI)))), (5, (dt (.sl 1 (l.map encI)))), (6, (dt (I ((l.length : Nat) : Int)))), (7, (dt (I ((k : Nat) : Int)))), (30, (dt (B true)))] []) (True ∧ True ∧ True ∧ True ∧ True ∧ True ∧ (((decide (x4 < 0)) == false) = true) ∧ True ∧ (((decide (x4 < 0)) == false) = true) ∧ True ∧ True ∧ ((decide (x4 < 0)) = false) ∧ True ∧ True ∧ (((decide (x4 ≥ 192)) == false) = false) ∧ (((decide (x4 ≥ 192)) == false) = false) ∧ (((decide (x4 ≥ 192)) == false) = false) ∧ True ∧ True ∧ True ∧ True ∧ True ∧ True ∧ True ∧ (((decide (x4 ≥ 192)) == false) = false) ∧ True ∧ ((decide (x4 ≥ 192)) = true) ∧ True) (by kernel_rfl) ⟨trivial, trivial, trivial, trivial, trivial, trivial, (by rw [show (decide (x4 < 0)) = false from h6]; rfl), trivial, (by rw [show (decide (x4 < 0)) = false from h6]; rfl), trivial, trivial, h6, trivial, trivial, (by rw [show (decide (x4 ≥ 192)) = true from h9]; rfl), (by rw [show (decide (x4 ≥ 192)) = true from h9]; rfl), (by rw [show (decide (x4 ≥ 192)) = true from h9]; rfl), trivial, trivial, trivial, trivial, trivial, trivial, trivial, (by rw [show (decide (x4 ≥ 192)) = true from h9]; rfl), trivial, h9, trivial⟩ ?_
        refine T_cond true (by kernel_rfl) (fun _ => ?_) (fun h => absurd (h.symm.trans rfl) (by decide))
        refine T_reg [] [2] [] (mk 35 [(2, (dt (B false)))] []) (True ∧ True ∧ True) (by kernel_rfl) ⟨trivial, trivial, trivial⟩ ?_
        refine T_ret ?_
        exact ret_here [(dt (B false))] (by kernel_rfl) (.inl (congrArg B (by first | (rw [areClubs, ← iv, List.drop_eq_nil_of_le (by omega)]; simp [incFrom]; done) | (rw [areClubs, ← iv, drop_cons (by assumption), incFrom, if_pos (by omega)]; rfl) : false = (areClubs l))))
      · skip
        have g11 : ¬ (x4 ≥ 192) := of_decide_eq_false (h9)
        rcases Bool.eq_false_or_eq_true (decide (((k : Nat) : Int) > 0)) with h12 | h12
        · skip
          have g13 : ((k : Nat) : Int) > 0 := of_decide_eq_true (h12)
          refine T_reg [{}, {}, {}, {}, {}, { d := some (B false) }, {}, {}, {}, {}, {}, {}, {}, { d := some (I (((k : Nat) : Int) - 1)) }, { d := some (I p) }, {}, {}, { d := some (B true) }, { d := some (B false) }] [0, 5, 6, 7, 30] [] (mk 35 [(0, (dt (.sl 1 (l.map encI)))), (5, (dt (.sl 1 (l.map encI)))), (6, (dt (I ((l.length : Nat) : Int)))), (7, (dt (I ((k : Nat) : Int)))), (30, (dt (B (decide (x4 ≤ p)))))] []) (True ∧ True ∧ True ∧ True ∧ True ∧ True ∧ (((decide (x4 < 0)) == false) = true) ∧ True ∧ (((decide (x4 < 0)) == false) = true) ∧ True ∧ True ∧ ((decide (x4 < 0)) = false) ∧ True ∧ True ∧ (((decide (x4 ≥ 192)) == false) = true) ∧ True ∧ (((decide (x4 ≥ 192)) == false) = true) ∧ True ∧ (((decide (x4 ≥ 192)) == false) = true) ∧ True ∧ (((decide (((k : Nat) : Int) > 0)) == true) = true) ∧ True ∧ (((decide (((k : Nat) : Int) > 0)) == true) = true) ∧ True ∧ (((decide (((k : Nat) : Int) > 0)) == true) = true) ∧ True ∧ (((decide (((k : Nat) : Int) > 0)) == true) = true) ∧ (IntKind.i64.wrap (((k : Nat) : Int) - 1) = (((k : Nat) : Int) - 1)) ∧ (((decide (((k : Nat) : Int) > 0)) == true) = true) ∧ (0 ≤ (((k : Nat) : Int) - 1) ∧ (l.map encI)[((((k : Nat) : Int) - 1)).toNat]? = some (I p)) ∧ (((decide (((k : Nat) : Int) > 0)) == true) = true) ∧ True ∧ (((decide (((k : Nat) : Int) > 0)) == true) = true) ∧ True ∧ (((decide (x4 ≥ 192)) == false) = true) ∧ ((decide (((k : Nat) : Int) > 0)) = true) ∧ True ∧ ((decide (x4 ≥ 192)) = false) ∧ True) (by kernel_rfl) ⟨trivial, trivial, trivial, trivial, trivial, trivial, (by rw [show (decide (x4 < 0)) = false from h6]; rfl), trivial, (by rw [show (decide (x4 < 0)) = false from h6]; rfl), trivial, trivial, h6, trivial, trivial, (by rw [show (decide (x4 ≥ 192)) = false from h9]; rfl), trivial, (by rw [show (decide (x4 ≥ 192)) = false from h9]; rfl), trivial, (by rw [show (decide (x4 ≥ 192)) = false from h9]; rfl), trivial, (by rw [show (decide (((k : Nat) : Int) > 0)) = true from h12]; rfl), trivial, (by rw [show (decide (((k : Nat) : Int) > 0)) = true from h12]; rfl), trivial, (by rw [show (decide (((k : Nat) : Int) > 0)) = true from h12]; rfl), trivial, (by rw [show (decide (((k : Nat) : Int) > 0)) = true from h12]; rfl), (i64_wrap (by omega) (by omega)), (by rw [show (decide (((k : Nat) : Int) > 0)) = true from h12]; rfl), ⟨by omega, by rw [show ((((k : Nat) : Int) - 1)).toNat = k - 1 from by omega]; rw [List.getElem?_map, (ip2 (by omega))]; rfl⟩, (by rw [show (decide (((k : Nat) : Int) > 0)) = true from h12]; rfl), trivial, (by rw [show (decide (((k : Nat) : Int) > 0)) = true from h12]; rfl), trivial, (by rw [show (decide (x4 ≥ 192)) = false from h9]; rfl), h12, trivial, h9, trivial⟩ ?_
          refine T_cond (decide (x4 ≤ p)) (by kernel_rfl) (fun h14 => ?_) (fun h14 => ?_)
          · skip
            have g15 : x4 ≤ p := of_decide_eq_true (h14)
            refine T_reg [] [2] [] (mk 35 [(2, (dt (B false)))] []) (True ∧ True ∧ True) (by kernel_rfl) ⟨trivial, trivial, trivial⟩ ?_
            refine T_ret ?_
            exact ret_here [(dt (B false))] (by kernel_rfl) (.inl (congrArg B (by first | (rw [areClubs, ← iv, List.drop_eq_nil_of_le (by omega)]; simp [incFrom]; done) | (rw [areClubs, ← iv, drop_cons (by assumption), incFrom, if_pos (by omega)]; rfl) : false = (areClubs l))))
          · skip
            have g16 : ¬ (x4 ≤ p) := of_decide_eq_false (h14)
            refine T_skip ?_
            refine T_regE [{ d := some (I ((k + 1 : Nat) : Int)) }] (mk 35 [(0, (dt (.sl 1 (l.map encI)))), (5, (dt (.sl 1 (l.map encI)))), (6, (dt (I ((l.length : Nat) : Int)))), (7, (dt (I ((k + 1 : Nat) : Int)))), (30, (dt (B (decide (x4 ≤ p))))), (31, (dt (I ((k + 1 : Nat) : Int))))] []) (True ∧ (IntKind.i64.wrap (((k : Nat) : Int) + 1) = ((k + 1 : Nat) : Int)) ∧ True ∧ True ∧ True) (by kernel_rfl) ⟨trivial, (by rw [i64_wrap (by omega) (by omega)]; omega), trivial, trivial, trivial⟩ ?_
            refine Exists.intro (k + 1, x4) ⟨⟨by omega, by rw [← iv, drop_cons hx5, incFrom, if_neg (by rintro (h | h | h) <;> first | omega | (by_cases hk : k = 0 <;> first | omega | (have := ip hk; omega)))], fun h => by omega, fun _ => by simpa using hx5, trivial⟩, by first | omega | (dsimp only; omega), le_turn [] [0, 5, 6, 7] [] (by kernel_rfl)⟩
        · skip
          have g17 : ¬ (((k : Nat) : Int) > 0) := of_decide_eq_false (h12)
          refine T_reg [{}, {}, {}, {}, {}, { d := some (B false) }, {}, {}, {}, {}, { g := false }, { g := false }, { g := false }, { g := false }, { g := false }, { g := false }, { g := false }, { d := some (B false) }, { d := some (B false) }] [0, 5, 6, 7, 30] [] (mk 35 [(0, (dt (.sl 1 (l.map encI)))), (5, (dt (.sl 1 (l.map encI)))), (6, (dt (I ((l.length : Nat) : Int)))), (7, (dt (I ((k : Nat) : Int)))), (30, (dt (B false)))] []) (True ∧ True ∧ True ∧ True ∧ True ∧ True ∧ (((decide (x4 < 0)) == false) = true) ∧ True ∧ (((decide (x4 < 0)) == false) = true) ∧ True ∧ True ∧ ((decide (x4 < 0)) = false) ∧ True ∧ True ∧ (((decide (x4 ≥ 192)) == false) = true) ∧ True ∧ (((decide (x4 ≥ 192)) == false) = true) ∧ True ∧ (((decide (x4 ≥ 192)) == false) = true) ∧ True ∧ (((decide (((k : Nat) : Int) > 0)) == true) = false) ∧ (((decide (((k : Nat) : Int) > 0)) == true) = false) ∧ (((decide (((k : Nat) : Int) > 0)) == true) = false) ∧ (((decide (((k : Nat) : Int) > 0)) == true) = false) ∧ (((decide (((k : Nat) : Int) > 0)) == true) = false) ∧ (((decide (((k : Nat) : Int) > 0)) == true) = false) ∧ (((decide (((k : Nat) : Int) > 0)) == true) = false) ∧ (((decide (x4 ≥ 192)) == false) = true) ∧ ((decide (((k : Nat) : Int) > 0)) = false) ∧ True ∧ ((decide (x4 ≥ 192)) = false) ∧ True) (by kernel_rfl) ⟨trivial, trivial, trivial, trivial, trivial, trivial, (by rw [show (decide (x4 < 0)) = false from h6]; rfl), trivial, (by rw [show (decide (x4 < 0)) = false from h6]; rfl), trivial, trivial, h6, trivial, trivial, (by rw [show (decide (x4 ≥ 192)) = false from h9]; rfl), trivial, (by rw [show (decide (x4 ≥ 192)) = false from h9]; rfl), trivial, (by rw [show (decide (x4 ≥ 192)) = false from h9]; rfl), trivial, (by rw [show (decide (((k : Nat) : Int) > 0)) = false from h12]; rfl), (by rw [show (decide (((k : Nat) : Int) > 0)) = false from h12]; rfl), (by rw [show (decide (((k : Nat) : Int) > 0)) = false from h12]; rfl), (by rw [show (decide (((k : Nat) : Int) > 0)) = false from h12]; rfl), (by rw [show (decide (((k : Nat) : Int) > 0)) = false from h12]; rfl), (by rw [show (decide (((k : Nat) : Int) > 0)) = false from h12]; rfl), (by rw [show (decide (((k : Nat) : Int) > 0)) = false from h12]; rfl), (by rw [show (decide (x4 ≥ 192)) = false from h9]; rfl), h12, trivial, h9, trivial⟩ ?_
          refine T_cond false (by kernel_rfl) (fun h => absurd (h.symm.trans rfl) (by decide)) (fun _ => ?_)
          refine T_skip ?_
          refine T_regE [{ d := some (I ((k + 1 : Nat) : Int)) }] (mk 35 [(0, (dt (.sl 1 (l.map encI)))), (5, (dt (.sl 1 (l.map encI)))), (6, (dt (I ((l.length : Nat) : Int)))), (7, (dt (I ((k + 1 : Nat) : Int)))), (30, (dt (B false))), (31, (dt (I ((k + 1 : Nat) : Int))))] []) (True ∧ (IntKind.i64.wrap (((k : Nat) : Int) + 1) = ((k + 1 : Nat) : Int)) ∧ True ∧ True ∧ True) (by kernel_rfl) ⟨trivial, (by rw [i64_wrap (by omega) (by omega)]; omega), trivial, trivial, trivial⟩ ?_
          refine Exists.intro (k + 1, x4) ⟨⟨by omega, by rw [← iv, drop_cons hx5, incFrom, if_neg (by rintro (h | h | h) <;> first | omega | (by_cases hk : k = 0 <;> first | omega | (have := ip hk; omega)))], fun h => by omega, fun _ => by simpa using hx5, trivial⟩, by first | omega | (dsimp only; omega), le_turn [] [0, 5, 6, 7] [] (by kernel_rfl)⟩
  · skip
    have g18 : ¬ (((k : Nat) : Int) < ((l.length : Nat) : Int)) := of_decide_eq_false (h1)
    refine T_exit ?_
    refine T_reg [{}, { d := some (I ((l.length : Nat) : Int)) }] [2] [] (mk 35 [(2, (dt (B (decide (((l.length : Nat) : Int) > 0)))))] []) (True ∧ True ∧ True ∧ (True ∧ D.int .i64 ((l.map encI).length : Int) = (I ((l.length : Nat) : Int))) ∧ True ∧ True ∧ True ∧ True ∧ True) (by kernel_rfl) ⟨trivial, trivial, trivial, ⟨trivial, by rw [List.length_map]⟩, trivial, trivial, trivial, trivial, trivial⟩ ?_
    refine T_ret ?_
    exact ret_here [(dt (B (decide (((l.length : Nat) : Int) > 0))))] (by kernel_rfl) (.inl (congrArg B (by first | (rw [areClubs, ← iv, List.drop_eq_nil_of_le (by omega)]; simp [incFrom]; done) | (rw [areClubs, ← iv, drop_cons (by assumption), incFrom, if_pos (by omega)]; rfl) : (decide (((l.length : Nat) : Int) > 0)) = (areClubs l))))

theorem ret_increasing (l : List Int) (hl : l.length ≤ 140737488355328) : Ret Try.prog 34 [(.sl 1 (l.map encI))] (B (areClubs l)) := by
  refine Ret.of_T Try.func34 (by kernel_rfl) rfl ?_
  refine T_turn [] [0] [] (mk 41 [(0, (dt (.sl 1 (l.map encI))))] []) (by kernel_rfl) ?_
  refine T_reg [] [0] [] (mk 41 [(0, (dt (.sl 1 (l.map encI))))] []) (True ∧ True ∧ True) (by kernel_rfl) ⟨trivial, trivial, trivial⟩ ?_
  refine T_seq ?_
  refine T_reg [] [0, 3] [] (mk 41 [(0, (dt (.sl 1 (l.map encI)))), (3, (dt (I 0)))] []) (True ∧ True ∧ True) (by kernel_rfl) ⟨trivial, trivial, trivial⟩ ?_
  refine T_block ?_
  refine T_turn [] [0, 3] [] ((fun ((k, p) : Nat × Int) => (mk 41 [(0, (dt (.sl 1 (l.map encI)))), (3, (dt (I ((k : Nat) : Int))))] [])) (0, (-1))) (by kernel_rfl) (T_loop (α := Nat × Int) (fun ((k, p) : Nat × Int) => (mk 41 [(0, (dt (.sl 1 (l.map encI)))), (3, (dt (I ((k : Nat) : Int))))] [])) (fun ((k, p) : Nat × Int) => (k ≤ (l).length) ∧ (incFrom p (l.drop k) = incFrom (-1) l) ∧ (k = 0 → p = -1) ∧ (0 < k → l[k - 1]? = some p) ∧ True) (fun ((k, p) : Nat × Int) => (l).length - k) (0, (-1)) ⟨Nat.zero_le _, rfl, fun _ => rfl, fun h => absurd h (Nat.lt_irrefl _), trivial⟩ ?_)
  rintro ⟨k, p⟩ ⟨ik, iv, ip, ip2, _⟩
  refine T_seq ?_
  refine T_reg [{}, {}, { d := some (I ((l.length : Nat) : Int)) }] [0, 3, 7] [] (mk 41 [(0, (dt (.sl 1 (l.map encI)))), (3, (dt (I ((k : Nat) : Int)))), (7, (dt (B (decide (((k : Nat) : Int) < ((l.length : Nat) : Int))))))] []) (True ∧ True ∧ True ∧ True ∧ True ∧ (True ∧ D.int .i64 ((l.map encI).length : Int) = (I ((l.length : Nat) : Int))) ∧ True ∧ True ∧ True) (by kernel_rfl) ⟨trivial, trivial, trivial, trivial, trivial, ⟨trivial, by rw [List.length_map]⟩, trivial, trivial, trivial⟩ ?_
  refine T_cond (decide (((k : Nat) : Int) < ((l.length : Nat) : Int))) (by kernel_rfl) (fun h1 => ?_) (fun h1 => ?_)
  · skip
    have g2 : ((k : Nat) : Int) < ((l.length : Nat) : Int) := of_decide_eq_true (h1)
    refine T_skip ?_
    refine T_seq ?_
    refine T_block ?_
    have lt3 : k < (l).length := by first | omega | (simp only [List.length_set, List.length_map, List.length_append, List.length_cons, List.length_nil] at *; omega)
    obtain ⟨x4, hx5⟩ : ∃ x, (l)[k]? = some x := ⟨_, List.getElem?_eq_getElem lt3⟩
    rcases Bool.eq_false_or_eq_true (decide (x4 < 0)) with h6 | h6
    · skip
      have g7 : x4 < 0 := of_decide_eq_true (h6)
      refine T_regD 28 [{}, {}, { d := some (I x4) }, {}, {}, {}, { g := false }, { g := false }, { g := false }, { g := false }, { g := false }, { d := some (B true) }, {}, { g := false }, { g := false }, { g := false }, {}, {}, {}, {}, {}, {}, {}, {}, {}, {}, { g := false }, { d := some (B true) }] [0, 3, 37] [] (mk 41 [(0, (dt (.sl 1 (l.map encI)))), (3, (dt (I ((k : Nat) : Int)))), (37, (dt (B true)))] []) ((True ∧ True ∧ True ∧ True ∧ True ∧ (0 ≤ ((k : Nat) : Int) ∧ (l.map encI)[k]? = some (I x4)) ∧ True ∧ True ∧ True ∧ True ∧ True ∧ True ∧ (((decide (x4 < 0)) == false) = false) ∧ (((decide (x4 < 0)) == false) = false) ∧ (((decide (x4 < 0)) == false) = false) ∧ (((decide (x4 < 0)) == false) = false) ∧ (((decide (x4 < 0)) == false) = false) ∧ True ∧ ((decide (x4 < 0)) = true) ∧ True ∧ True ∧ ((true == false) = false) ∧ ((true == false) = false) ∧ ((true == false) = false) ∧ True ∧ True ∧ True ∧ True ∧ True ∧ True ∧ True ∧ True ∧ True ∧ True ∧ ((true == false) = false) ∧ True ∧ (true = true) ∧ True) ∧ True) (by kernel_rfl) (by kernel_rfl) (by kernel_rfl) ⟨⟨trivial, trivial, trivial, trivial, trivial, ⟨by omega, by rw [List.getElem?_map, hx5]; rfl⟩, trivial, trivial, trivial, trivial, trivial, trivial, (by rw [show (decide (x4 < 0)) = true from h6]; rfl), (by rw [show (decide (x4 < 0)) = true from h6]; rfl), (by rw [show (decide (x4 < 0)) = true from h6]; rfl), (by rw [show (decide (x4 < 0)) = true from h6]; rfl), (by rw [show (decide (x4 < 0)) = true from h6]; rfl), trivial, h6, trivial, trivial, (by rw [show true = true from rfl]; rfl), (by rw [show true = true from rfl]; rfl), (by rw [show true = true from rfl]; rfl), trivial, trivial, trivial, trivial, trivial, trivial, trivial, trivial, trivial, trivial, (by rw [show true = true from rfl]; rfl), trivial, rfl, trivial⟩, trivial⟩ ?_
      refine T_cond true (by kernel_rfl) (fun _ => ?_) (fun h => absurd (h.symm.trans rfl) (by decide))
      refine T_reg [] [2] [] (mk 41 [(2, (dt (B false)))] []) (True ∧ True ∧ True) (by kernel_rfl) ⟨trivial, trivial, trivial⟩ ?_
      refine T_ret ?_
      exact ret_here [(dt (B false))] (by kernel_rfl) (.inl (congrArg B (by first | (rw [areClubs, ← iv, List.drop_eq_nil_of_le (by omega)]; simp [incFrom]; done) | (rw [areClubs, ← iv, drop_cons (by assumption), incFrom, if_pos (by omega)]; rfl) : false = (areClubs l))))
    · skip
      have g8 : ¬ (x4 < 0) := of_decide_eq_false (h6)
      rcases Bool.eq_false_or_eq_true (decide (x4 ≥ 192)) with h9 | h9
      · skip
        have g10 : x4 ≥ 192 := of_decide_eq_true (h9)
        refine T_regD 28 [{}, {}, { d := some (I x4) }, {}, {}, {}, {}, {}, { d := some (I x4) }, {}, {}, { d := some (B false) }, {}, { g := false }, { g := false }, { g := false }, {}, {}, {}, {}, {}, {}, {}, {}, {}, {}, { g := false }, { d := some (B true) }] [0, 3, 37] [] (mk 41 [(0, (dt (.sl 1 (l.map encI)))), (3, (dt (I ((k : Nat) : Int)))), (37, (dt (B true)))] []) ((True ∧ True ∧ True ∧ True ∧ True ∧ (0 ≤ ((k : Nat) : Int) ∧ (l.map encI)[k]? = some (I x4)) ∧ True ∧ True ∧ True ∧ True ∧ True ∧ True ∧ (((decide (x4 < 0)) == false) = true) ∧ True ∧ (((decide (x4 < 0)) == false) = true) ∧ True ∧ (((decide (x4 < 0)) == false) = true) ∧ (0 ≤ ((k : Nat) : Int) ∧ (l.map encI)[k]? = some (I x4)) ∧ (((decide (x4 < 0)) == false) = true) ∧ True ∧ (((decide (x4 < 0)) == false) = true) ∧ True ∧ True ∧ ((decide (x4 < 0)) = false) ∧ True ∧ True ∧ (((decide (x4 ≥ 192)) == false) = false) ∧ (((decide (x4 ≥ 192)) == false) = false) ∧ (((decide (x4 ≥ 192)) == false) = false) ∧ True ∧ True ∧ True ∧ True ∧ True ∧ True ∧ True ∧ True ∧ True ∧ True ∧ (((decide (x4 ≥ 192)) == false) = false) ∧ True ∧ ((decide (x4 ≥ 192)) = true) ∧ True) ∧ True) (by kernel_rfl) (by kernel_rfl) (by kernel_rfl) ⟨⟨trivial, trivial, trivial, trivial, trivial, ⟨by omega, by rw [List.getElem?_map, hx5]; rfl⟩, trivial, trivial, trivial, trivial, trivial, trivial, (by rw [show (decide (x4 < 0)) = false from h6]; rfl), trivial, (by rw [show (decide (x4 < 0)) = false from h6]; rfl), trivial, (by rw [show (decide (x4 < 0)) = false from h6]; rfl), ⟨by omega, by rw [List.getElem?_map, hx5]; rfl⟩, (by rw [show (decide (x4 < 0)) = false from h6]; rfl), trivial, (by rw [show (decide (x4 < 0)) = false from h6]; rfl), trivial, trivial, h6, trivial, trivial, (by rw [show (decide (x4 ≥ 192)) = true from h9]; rfl), (by rw [show (decide (x4 ≥ 192)) = true from h9]; rfl), (by rw [show (decide (x4 ≥ 192)) = true from h9]; rfl), trivial, trivial, trivial, trivial, trivial, trivial, trivial, trivial, trivial, trivial, (by rw [show (decide (x4 ≥ 192)) = true from h9]; rfl), trivial, h9, trivial⟩, trivial⟩ ?_
        refine T_cond true (by kernel_rfl) (fun _ => ?_) (fun h => absurd (h.symm.trans rfl) (by decide))
        refine T_reg [] [2] [] (mk 41 [(2, (dt (B false)))] []) (True ∧ True ∧ True) (by kernel_rfl) ⟨trivial, trivial, trivial⟩ ?_
        refine T_ret ?_
        exact ret_here [(dt (B false))] (by kernel_rfl) (.inl (congrArg B (by first | (rw [areClubs, ← iv, List.drop_eq_nil_of_le (by omega)]; simp [incFrom]; done) | (rw [areClubs, ← iv, drop_cons (by assumption), incFrom, if_pos (by omega)]; rfl) : false = (areClubs l))))
      · skip
        have g11 : ¬ (x4 ≥ 192) := of_decide_eq_false (h9)
        rcases Bool.eq_false_or_eq_true (decide (((k : Nat) : Int) > 0)) with h12 | h12
        · skip
          have g13 : ((k : Nat) : Int) > 0 := of_decide_eq_true (h12)
          refine T_regD 28 [{}, {}, { d := some (I x4) }, {}, {}, {}, {}, {}, { d := some (I x4) }, {}, {}, { d := some (B false) }, {}, {}, {}, {}, {}, {}, { d := some (I x4) }, {}, {}, {}, { d := some (I (((k : Nat) : Int) - 1)) }, { d := some (I p) }, {}, {}, { d := some (B true) }, { d := some (B false) }] [0, 3, 37] [] (mk 41 [(0, (dt (.sl 1 (l.map encI)))), (3, (dt (I ((k : Nat) : Int)))), (37, (dt (B (decide (x4 ≤ p)))))] []) ((True ∧ True ∧ True ∧ True ∧ True ∧ (0 ≤ ((k : Nat) : Int) ∧ (l.map encI)[k]? = some (I x4)) ∧ True ∧ True ∧ True ∧ True ∧ True ∧ True ∧ (((decide (x4 < 0)) == false) = true) ∧ True ∧ (((decide (x4 < 0)) == false) = true) ∧ True ∧ (((decide (x4 < 0)) == false) = true) ∧ (0 ≤ ((k : Nat) : Int) ∧ (l.map encI)[k]? = some (I x4)) ∧ (((decide (x4 < 0)) == false) = true) ∧ True ∧ (((decide (x4 < 0)) == false) = true) ∧ True ∧ True ∧ ((decide (x4 < 0)) = false) ∧ True ∧ True ∧ (((decide (x4 ≥ 192)) == false) = true) ∧ True ∧ (((decide (x4 ≥ 192)) == false) = true) ∧ True ∧ (((decide (x4 ≥ 192)) == false) = true) ∧ True ∧ (((decide (((k : Nat) : Int) > 0)) == true) = true) ∧ True ∧ (((decide (((k : Nat) : Int) > 0)) == true) = true) ∧ True ∧ (((decide (((k : Nat) : Int) > 0)) == true) = true) ∧ (0 ≤ ((k : Nat) : Int) ∧ (l.map encI)[k]? = some (I x4)) ∧ (((decide (((k : Nat) : Int) > 0)) == true) = true) ∧ True ∧ (((decide (((k : Nat) : Int) > 0)) == true) = true) ∧ True ∧ (((decide (((k : Nat) : Int) > 0)) == true) = true) ∧ True ∧ (((decide (((k : Nat) : Int) > 0)) == true) = true) ∧ (IntKind.i64.wrap (((k : Nat) : Int) - 1) = (((k : Nat) : Int) - 1)) ∧ (((decide (((k : Nat) : Int) > 0)) == true) = true) ∧ (0 ≤ (((k : Nat) : Int) - 1) ∧ (l.map encI)[((((k : Nat) : Int) - 1)).toNat]? = some (I p)) ∧ (((decide (((k : Nat) : Int) > 0)) == true) = true) ∧ True ∧ (((decide (((k : Nat) : Int) > 0)) == true) = true) ∧ True ∧ (((decide (x4 ≥ 192)) == false) = true) ∧ ((decide (((k : Nat) : Int) > 0)) = true) ∧ True ∧ ((decide (x4 ≥ 192)) = false) ∧ True) ∧ True) (by kernel_rfl) (by kernel_rfl) (by kernel_rfl) ⟨⟨trivial, trivial, trivial, trivial, trivial, ⟨by omega, by rw [List.getElem?_map, hx5]; rfl⟩, trivial, trivial, trivial, trivial, trivial, trivial, (by rw [show (decide (x4 < 0)) = false from h6]; rfl), trivial, (by rw [show (decide (x4 < 0)) = false from h6]; rfl), trivial, (by rw [show (decide (x4 < 0)) = false from h6]; rfl), ⟨by omega, by rw [List.getElem?_map, hx5]; rfl⟩, (by rw [show (decide (x4 < 0)) = false from h6]; rfl), trivial, (by rw [show (decide (x4 < 0)) = false from h6]; rfl), trivial, trivial, h6, trivial, trivial, (by rw [show (decide (x4 ≥ 192)) = false from h9]; rfl), trivial, (by rw [show (decide (x4 ≥ 192)) = false from h9]; rfl), trivial, (by rw [show (decide (x4 ≥ 192)) = false from h9]; rfl), trivial, (by rw [show (decide (((k : Nat) : Int) > 0)) = true from h12]; rfl), trivial, (by rw [show (decide (((k : Nat) : Int) > 0)) = true from h12]; rfl), trivial, (by rw [show (decide (((k : Nat) : Int) > 0)) = true from h12]; rfl), ⟨by omega, by rw [List.getElem?_map, hx5]; rfl⟩, (by rw [show (decide (((k : Nat) : Int) > 0)) = true from h12]; rfl), trivial, (by rw [show (decide (((k : Nat) : Int) > 0)) = true from h12]; rfl), trivial, (by rw [show (decide (((k : Nat) : Int) > 0)) = true from h12]; rfl), trivial, (by rw [show (decide (((k : Nat) : Int) > 0)) = true from h12]; rfl), (i64_wrap (by omega) (by omega)), (by rw [show (decide (((k : Nat) : Int) > 0)) = true from h12]; rfl), ⟨by omega, by rw [show ((((k : Nat) : Int) - 1)).toNat = k - 1 from by omega]; rw [List.getElem?_map, (ip2 (by omega))]; rfl⟩, (by rw [show (decide (((k : Nat) : Int) > 0)) = true from h12]; rfl), trivial, (by rw [show (decide (((k : Nat) : Int) > 0)) = true from h12]; rfl), trivial, (by rw [show (decide (x4 ≥ 192)) = false from h9]; rfl), h12, trivial, h9, trivial⟩, trivial⟩ ?_
          refine T_cond (decide (x4 ≤ p)) (by kernel_rfl) (fun h14 => ?_) (fun h14 => ?_)
          · skip
            have g15 : x4 ≤ p := of_decide_eq_true (h14)
            refine T_reg [] [2] [] (mk 41 [(2, (dt (B false)))] []) (True ∧ True ∧ True) (by kernel_rfl) ⟨trivial, trivial, trivial⟩ ?_
            refine T_ret ?_
            exact ret_here [(dt (B false))] (by kernel_rfl) (.inl (congrArg B (by first | (rw [areClubs, ← iv, List.drop_eq_nil_of_le (by omega)]; simp [incFrom]; done) | (rw [areClubs, ← iv, drop_cons (by assumption), incFrom, if_pos (by omega)]; rfl) : false = (areClubs l))))
          · skip
            have g16 : ¬ (x4 ≤ p) := of_decide_eq_false (h14)
            refine T_skip ?_
            refine T_regE [{}, { d := some (I ((k + 1 : Nat) : Int)) }] (mk 41 [(0, (dt (.sl 1 (l.map encI)))), (3, (dt (I ((k + 1 : Nat) : Int)))), (8, (dt (I ((k : Nat) : Int)))), (9, (dt (I ((k + 1 : Nat) : Int)))), (37, (dt (B (decide (x4 ≤ p)))))] []) (True ∧ True ∧ True ∧ (IntKind.i64.wrap (((k : Nat) : Int) + 1) = ((k + 1 : Nat) : Int)) ∧ True ∧ True ∧ True) (by kernel_rfl) ⟨trivial, trivial, trivial, (by rw [i64_wrap (by omega) (by omega)]; omega), trivial, trivial, trivial⟩ ?_
            refine Exists.intro (k + 1, x4) ⟨⟨by omega, by rw [← iv, drop_cons hx5, incFrom, if_neg (by rintro (h | h | h) <;> first | omega | (by_cases hk : k = 0 <;> first | omega | (have := ip hk; omega)))], fun h => by omega, fun _ => by simpa using hx5, trivial⟩, by first | omega | (dsimp only; omega), le_turn [] [0, 3] [] (by kernel_rfl)⟩
        · skip
          have g17 : ¬ (((k : Nat) : Int) > 0) := of_decide_eq_false (h12)
          refine T_regD 28 [{}, {}, { d := some (I x4) }, {}, {}, {}, {}, {}, { d := some (I x4) }, {}, {}, { d := some (B false) }, {}, {}, {}, {}, { g := false }, { g := false }, { g := false }, { g := false }, { g := false }, { g := false }, { g := false }, { g := false }, { g := false }, { g := false }, { d := some (B false) }, { d := some (B false) }] [0, 3, 37] [] (mk 41 [(0, (dt (.sl 1 (l.map encI)))), (3, (dt (I ((k : Nat) : Int)))), (37, (dt (B false)))] []) ((True ∧ True ∧ True ∧ True ∧ True ∧ (0 ≤ ((k : Nat) : Int) ∧ (l.map encI)[k]? = some (I x4)) ∧ True ∧ True ∧ True ∧ True ∧ True ∧ True ∧ (((decide (x4 < 0)) == false) = true) ∧ True ∧ (((decide (x4 < 0)) == false) = true) ∧ True ∧ (((decide (x4 < 0)) == false) = true) ∧ (0 ≤ ((k : Nat) : Int) ∧ (l.map encI)[k]? = some (I x4)) ∧ (((decide (x4 < 0)) == false) = true) ∧ True ∧ (((decide (x4 < 0)) == false) = true) ∧ True ∧ True ∧ ((decide (x4 < 0)) = false) ∧ True ∧ True ∧ (((decide (x4 ≥ 192)) == false) = true) ∧ True ∧ (((decide (x4 ≥ 192)) == false) = true) ∧ True ∧ (((decide (x4 ≥ 192)) == false) = true) ∧ True ∧ (((decide (((k : Nat) : Int) > 0)) == true) = false) ∧ (((decide (((k : Nat) : Int) > 0)) == true) = false) ∧ (((decide (((k : Nat) : Int) > 0)) == true) = false) ∧ (((decide (((k : Nat) : Int) > 0)) == true) = false) ∧ (((decide (((k : Nat) : Int) > 0)) == true) = false) ∧ (((decide (((k : Nat) : Int) > 0)) == true) = false) ∧ (((decide (((k : Nat) : Int) > 0)) == true) = false) ∧ (((decide (((k : Nat) : Int) > 0)) == true) = false) ∧ (((decide (((k : Nat) : Int) > 0)) == true) = false) ∧ (((decide (((k : Nat) : Int) > 0)) == true) = false) ∧ (((decide (x4 ≥ 192)) == false) = true) ∧ ((decide (((k : Nat) : Int) > 0)) = false) ∧ True ∧ ((decide (x4 ≥ 192)) = false) ∧ True) ∧ True) (by kernel_rfl) (by kernel_rfl) (by kernel_rfl) ⟨⟨trivial, trivial, trivial, trivial, trivial, ⟨by omega, by rw [List.getElem?_map, hx5]; rfl⟩, trivial, trivial, trivial, trivial, trivial, trivial, (by rw [show (decide (x4 < 0)) = false from h6]; rfl), trivial, (by rw [show (decide (x4 < 0)) = false from h6]; rfl), trivial, (by rw [show (decide (x4 < 0)) = false from h6]; rfl), ⟨by omega, by rw [List.getElem?_map, hx5]; rfl⟩, (by rw [show (decide (x4 < 0)) = false from h6]; rfl), trivial, (by rw [show (decide (x4 < 0)) = false from h6]; rfl), trivial, trivial, h6, trivial, trivial, (by rw [show (decide (x4 ≥ 192)) = false from h9]; rfl), trivial, (by rw [show (decide (x4 ≥ 192)) = false from h9]; rfl), trivial, (by rw [show (decide (x4 ≥ 192)) = false from h9]; rfl), trivial, (by rw [show (decide (((k : Nat) : Int) > 0)) = false from h12]; rfl), (by rw [show (decide (((k : Nat) : Int) > 0)) = false from h12]; rfl), (by rw [show (decide (((k : Nat) : Int) > 0)) = false from h12]; rfl), (by rw [show (decide (((k : Nat) : Int) > 0)) = false from h12]; rfl), (by rw [show (decide (((k : Nat) : Int) > 0)) = false from h12]; rfl), (by rw [show (decide (((k : Nat) : Int) > 0)) = false from h12]; rfl), (by rw [show (decide (((k : Nat) : Int) > 0)) = false from h12]; rfl), (by rw [show (decide (((k : Nat) : Int) > 0)) = false from h12]; rfl), (by rw [show (decide (((k : Nat) : Int) > 0)) = false from h12]; rfl), (by rw [show (decide (((k : Nat) : Int) > 0)) = false from h12]; rfl), (by rw [show (decide (x4 ≥ 192)) = false from h9]; rfl), h12, trivial, h9, trivial⟩, trivial⟩ ?_
          refine T_cond false (by kernel_rfl) (fun h => absurd (h.symm.trans rfl) (by decide)) (fun _ => ?_)
          refine T_skip ?_
          refine T_regE [{}, { d := some (I ((k + 1 : Nat) : Int)) }] (mk 41 [(0, (dt (.sl 1 (l.map encI)))), (3, (dt (I ((k + 1 : Nat) : Int)))), (8, (dt (I ((k : Nat) : Int)))), (9, (dt (I ((k + 1 : Nat) : Int)))), (37, (dt (B false)))] []) (True ∧ True ∧ True ∧ (IntKind.i64.wrap (((k : Nat) : Int) + 1) = ((k + 1 : Nat) : Int)) ∧ True ∧ True ∧ True) (by kernel_rfl) ⟨trivial, trivial, trivial, (by rw [i64_wrap (by omega) (by omega)]; omega), trivial, trivial, trivial⟩ ?_
          refine Exists.intro (k + 1, x4) ⟨⟨by omega, by rw [← iv, drop_cons hx5, incFrom, if_neg (by rintro (h | h | h) <;> first | omega | (by_cases hk : k = 0 <;> first | omega | (have := ip hk; omega)))], fun h => by omega, fun _ => by simpa using hx5, trivial⟩, by first | omega | (dsimp only; omega), le_turn [] [0, 3] [] (by kernel_rfl)⟩
  · skip
    have g18 : ¬ (((k : Nat) : Int) < ((l.length : Nat) : Int)) := of_decide_eq_false (h1)
    refine T_exit ?_
    refine T_reg [{}, { d := some (I ((l.length : Nat) : Int)) }] [2] [] (mk 41 [(2, (dt (B (decide (((l.length : Nat) : Int) > 0)))))] []) (True ∧ True ∧ True ∧ (True ∧ D.int .i64 ((l.map encI).length : Int) = (I ((l.length : Nat) : Int))) ∧ True ∧ True ∧ True ∧ True ∧ True) (by kernel_rfl) ⟨trivial, trivial, trivial, ⟨trivial, by rw [List.length_map]⟩, trivial, trivial, trivial, trivial, trivial⟩ ?_
    refine T_ret ?_
    exact ret_here [(dt (B (decide (((l.length : Nat) : Int) > 0))))] (by kernel_rfl) (.inl (congrArg B (by first | (rw [areClubs, ← iv, List.drop_eq_nil_of_le (by omega)]; simp [incFrom]; done) | (rw [areClubs, ← iv, drop_cons (by assumption), incFrom, if_pos (by omega)]; rfl) : (decide (((l.length : Nat) : Int) > 0)) = (areClubs l))))

theorem ret_samePay (a b : List Pay) (ha : a.length ≤ 140737488355328) (hb : b.length ≤ 140737488355328) : Ret Try.prog 35 [(.sl 2 (a.map encPay)), (.sl 2 (b.map encPay))] (B (decide (a = b))) := by
  refine Ret.of_T Try.func35 (by kernel_rfl) rfl ?_
  refine T_turn [] [0, 1] [] (mk 26 [(0, (dt (.sl 2 (a.map encPay)))), (1, (dt (.sl 2 (b.map encPay))))] []) (by kernel_rfl) ?_
  refine T_reg [] [0, 1] [] (mk 26 [(0, (dt (.sl 2 (a.map encPay)))), (1, (dt (.sl 2 (b.map encPay))))] []) (True ∧ True ∧ True) (by kernel_rfl) ⟨trivial, trivial, trivial⟩ ?_
  refine T_seq ?_
  refine T_reg [{}, { d := some (I ((a.length : Nat) : Int)) }, {}, { d := some (I ((b.length : Nat) : Int)) }] [0, 1, 10] [] (mk 26 [(0, (dt (.sl 2 (a.map encPay)))), (1, (dt (.sl 2 (b.map encPay)))), (10, (dt (B (((a.length : Nat) : Int) != ((b.length : Nat) : Int)))))] []) (True ∧ True ∧ True ∧ (True ∧ D.int .i64 ((a.map encPay).length : Int) = (I ((a.length : Nat) : Int))) ∧ True ∧ True ∧ True ∧ (True ∧ D.int .i64 ((b.map encPay).length : Int) = (I ((b.length : Nat) : Int))) ∧ True ∧ True ∧ True) (by kernel_rfl) ⟨trivial, trivial, trivial, ⟨trivial, by rw [List.length_map]⟩, trivial, trivial, trivial, ⟨trivial, by rw [List.length_map]⟩, trivial, trivial, trivial⟩ ?_
  refine T_cond (((a.length : Nat) : Int) != ((b.length : Nat) : Int)) (by kernel_rfl) (fun h1 => ?_) (fun h1 => ?_)
  · skip
    have g2 : ((a.length : Nat) : Int) ≠ ((b.length : Nat) : Int) := bne_iff_ne.1 (h1)
    refine T_reg [] [4] [] (mk 26 [(4, (dt (B false)))] []) (True ∧ True ∧ True) (by kernel_rfl) ⟨trivial, trivial, trivial⟩ ?_
    refine T_ret ?_
    exact ret_here [(dt (B false))] (by kernel_rfl) (.inl (congrArg B (by first | exact (decide_eq_true (eq_of_take iv (by omega) (by omega))).symm | exact dec_ne (by assumption) (by assumption) (pay_ne (by assumption)) | (symm; rw [decide_eq_false_iff_not]; rintro rfl; omega) : false = (decide (a = b)))))
  · skip
    have g3 : ((a.length : Nat) : Int) = ((b.length : Nat) : Int) := bne_f (h1)
    refine T_skip ?_
    refine T_seq ?_
    refine T_reg [] [0, 1, 5] [] (mk 26 [(0, (dt (.sl 2 (a.map encPay)))), (1, (dt (.sl 2 (b.map encPay)))), (5, (dt (I 0)))] []) (True ∧ True ∧ True) (by kernel_rfl) ⟨trivial, trivial, trivial⟩ ?_
    refine T_block ?_
    refine T_turn [] [0, 1, 5] [] ((fun (k : Nat) => (mk 26 [(0, (dt (.sl 2 (a.map encPay)))), (1, (dt (.sl 2 (b.map encPay)))), (5, (dt (I ((k : Nat) : Int))))] [])) (0)) (by kernel_rfl) (T_loop (α := Nat) (fun (k : Nat) => (mk 26 [(0, (dt (.sl 2 (a.map encPay)))), (1, (dt (.sl 2 (b.map encPay)))), (5, (dt (I ((k : Nat) : Int))))] [])) (fun (k : Nat) => (k ≤ (a).length) ∧ (a.take k = b.take k) ∧ True) (fun (k : Nat) => (a).length - k) (0) ⟨Nat.zero_le _, rfl, trivial⟩ ?_)
    rintro k ⟨ik, iv, _⟩
    refine T_seq ?_
    refine T_reg [{}, {}, { d := some (I ((a.length : Nat) : Int)) }] [0, 1, 5, 14] [] (mk 26 [(0, (dt (.sl 2 (a.map encPay)))), (1, (dt (.sl 2 (b.map encPay)))), (5, (dt (I ((k : Nat) : Int)))), (14, (dt (B (decide (((k : Nat) : Int) < ((a.length : Nat) : Int))))))] []) (True ∧ True ∧ True ∧ True ∧ True ∧ (True ∧ D.int .i64 ((a.map encPay).length : Int) = (I ((a.length : Nat) : Int))) ∧ True ∧ True ∧ True) (by kernel_rfl) ⟨trivial, trivial, trivial, trivial, trivial, ⟨trivial, by rw [List.length_map]⟩, trivial, trivial, trivial⟩ ?_
    refine T_cond (decide (((k : Nat) : Int) < ((a.length : Nat) : Int))) (by kernel_rfl) (fun h4 => ?_) (fun h4 => ?_)
    · skip
      have g5 : ((k : Nat) : Int) < ((a.length : Nat) : Int) := of_decide_eq_true (h4)
      refine T_skip ?_
      refine T_seq ?_
      refine T_block ?_
      have lt6 : k < (a).length := by first | omega | (simp only [List.length_set, List.length_map, List.length_append, List.length_cons, List.length_nil] at *; omega)
      obtain ⟨x7, hx8⟩ : ∃ x, (a)[k]? = some x := ⟨_, List.getElem?_eq_getElem lt6⟩
      have lt9 : k < (b).length := by first | omega | (simp only [List.length_set, List.length_map, List.length_append, List.length_cons, List.length_nil] at *; omega)
      obtain ⟨x10, hx11⟩ : ∃ x, (b)[k]? = some x := ⟨_, List.getElem?_eq_getElem lt9⟩
      refine T_regD 9 [{}, {}, { d := some (.agg [(I x7.c), (I x7.a)]) }, {}, {}, {}, { d := some (.agg [(I x10.c), (I x10.a)]) }] [0, 1, 5, 25] [] (mk 26 [(0, (dt (.sl 2 (a.map encPay)))), (1, (dt (.sl 2 (b.map encPay)))), (5, (dt (I ((k : Nat) : Int)))), (25, (dt (B (!((x7.c == x10.c) && ((x7.a == x10.a) && true))))))] []) ((True ∧ True ∧ True ∧ True ∧ True ∧ (0 ≤ ((k : Nat) : Int) ∧ (a.map encPay)[k]? = some (.agg [(I x7.c), (I x7.a)])) ∧ True ∧ True ∧ True ∧ True ∧ True ∧ True ∧ True ∧ (0 ≤ ((k : Nat) : Int) ∧ (b.map encPay)[k]? = some (.agg [(I x10.c), (I x10.a)])) ∧ True ∧ True ∧ True ∧ True ∧ True) ∧ True) (by kernel_rfl) (by kernel_rfl) (by kernel_rfl) ⟨⟨trivial, trivial, trivial, trivial, trivial, ⟨by omega, by rw [List.getElem?_map, hx8]; rfl⟩, trivial, trivial, trivial, trivial, trivial, trivial, trivial, ⟨by omega, by rw [List.getElem?_map, hx11]; rfl⟩, trivial, trivial, trivial, trivial, trivial⟩, trivial⟩ ?_
      refine T_cond (!((x7.c == x10.c) && ((x7.a == x10.a) && true))) (by kernel_rfl) (fun h12 => ?_) (fun h12 => ?_)
      · skip
        have n13 : ((x7.c == x10.c) && ((x7.a == x10.a) && true)) = false := not_t h12
        refine T_reg [] [4] [] (mk 26 [(4, (dt (B false)))] []) (True ∧ True ∧ True) (by kernel_rfl) ⟨trivial, trivial, trivial⟩ ?_
        refine T_ret ?_
        exact ret_here [(dt (B false))] (by kernel_rfl) (.inl (congrArg B (by first | exact (decide_eq_true (eq_of_take iv (by omega) (by omega))).symm | exact dec_ne (by assumption) (by assumption) (pay_ne (by assumption)) | (symm; rw [decide_eq_false_iff_not]; rintro rfl; omega) : false = (decide (a = b)))))
      · skip
        have n14 : ((x7.c == x10.c) && ((x7.a == x10.a) && true)) = true := not_f h12
        refine T_skip ?_
        refine T_regE [{}, { d := some (I ((k + 1 : Nat) : Int)) }] (mk 26 [(0, (dt (.sl 2 (a.map encPay)))), (1, (dt (.sl 2 (b.map encPay)))), (5, (dt (I ((k + 1 : Nat) : Int)))), (15, (dt (I ((k : Nat) : Int)))), (16, (dt (I ((k + 1 : Nat) : Int)))), (25, (dt (B (!((x7.c == x10.c) && ((x7.a == x10.a) && true))))))] []) (True ∧ True ∧ True ∧ (IntKind.i64.wrap (((k : Nat) : Int) + 1) = ((k + 1 : Nat) : Int)) ∧ True ∧ True ∧ True) (by kernel_rfl) ⟨trivial, trivial, trivial, (by rw [i64_wrap (by omega) (by omega)]; omega), trivial, trivial, trivial⟩ ?_
        refine Exists.intro (k + 1) ⟨⟨by omega, by exact take_eq_succ iv hx8 hx11 (pay_eq (by assumption)), trivial⟩, by first | omega | (dsimp only; omega), le_turn [] [0, 1, 5] [] (by kernel_rfl)⟩
    · skip
      have g15 : ¬ (((k : Nat) : Int) < ((a.length : Nat) : Int)) := of_decide_eq_false (h4)
      refine T_exit ?_
      refine T_reg [] [4] [] (mk 26 [(4, (dt (B true)))] []) (True ∧ True ∧ True) (by kernel_rfl) ⟨trivial, trivial, trivial⟩ ?_
      refine T_ret ?_
      exact ret_here [(dt (B true))] (by kernel_rfl) (.inl (congrArg B (by first | exact (decide_eq_true (eq_of_take iv (by omega) (by omega))).symm | exact dec_ne (by assumption) (by assumption) (pay_ne (by assumption)) | (symm; rw [decide_eq_false_iff_not]; rintro rfl; omega) : true = (decide (a = b)))))

theorem ret_fewR (h : House) (hb : h.b.length ≤ 140737488355328) (hh : h.h.length ≤ 140737488355328) (hp : ∀ x ∈ h.h, x.ps.length ≤ 140737488355328) : Ret Try.prog 11 [(.agg [(.sl 2 (h.b.map encPay)), (.sl 4 (h.h.map encHold))])] (B (fewHouse h)) := by
  refine Ret.of_T Try.func11 (by kernel_rfl) rfl ?_
  refine T_turn [] [0] [] (mk 29 [(0, (.agg [(.dat (.sl 2 (h.b.map encPay))), (.dat (.sl 4 (h.h.map encHold)))]))] []) (by kernel_rfl) ?_
  refine T_reg [] [1] [] (mk 29 [(1, (.one (.ref 1 0)))] [(1, (.var [(.dat (.sl 2 (h.b.map encPay))), (.dat (.sl 4 (h.h.map encHold)))]))]) (True ∧ True ∧ True ∧ True ∧ True) (by kernel_rfl) ⟨trivial, trivial, trivial, trivial, trivial⟩ ?_
  refine T_seq ?_
  rcases Bool.eq_false_or_eq_true (decide (((h.b.length : Nat) : Int) > 30)) with h1 | h1
  · skip
    have g2 : ((h.b.length : Nat) : Int) > 30 := of_decide_eq_true (h1)
    refine T_reg [{}, {}, { d := some (I ((h.b.length : Nat) : Int)) }, {}, {}, { g := false }, { g := false }, { g := false }, { g := false }, { d := some (B true) }] [1, 13] [] (mk 29 [(1, (.one (.ref 1 0))), (13, (dt (B true)))] [(1, (.var [(.dat (.sl 2 (h.b.map encPay))), (.dat (.sl 4 (h.h.map encHold)))]))]) (True ∧ True ∧ True ∧ True ∧ True ∧ (True ∧ D.int .i64 ((h.b.map encPay).length : Int) = (I ((h.b.length : Nat) : Int))) ∧ True ∧ True ∧ True ∧ True ∧ (((decide (((h.b.length : Nat) : Int) > 30)) == false) = false) ∧ (((decide (((h.b.length : Nat) : Int) > 30)) == false) = false) ∧ (((decide (((h.b.length : Nat) : Int) > 30)) == false) = false) ∧ (((decide (((h.b.length : Nat) : Int) > 30)) == false) = false) ∧ True ∧ ((decide (((h.b.length : Nat) : Int) > 30)) = true) ∧ True) (by kernel_rfl) ⟨trivial, trivial, trivial, trivial, trivial, ⟨trivial, by rw [List.length_map]⟩, trivial, trivial, trivial, trivial, (by rw [show (decide (((h.b.length : Nat) : Int) > 30)) = true from h1]; rfl), (by rw [show (decide (((h.b.length : Nat) : Int) > 30)) = true from h1]; rfl), (by rw [show (decide (((h.b.length : Nat) : Int) > 30)) = true from h1]; rfl), (by rw [show (decide (((h.b.length : Nat) : Int) > 30)) = true from h1]; rfl), trivial, h1, trivial⟩ ?_
    refine T_cond true (by kernel_rfl) (fun _ => ?_) (fun h => absurd (h.symm.trans rfl) (by decide))
    refine T_reg [] [2] [1] (mk 29 [(2, (dt (B false)))] []) (True ∧ True ∧ True) (by kernel_rfl) ⟨trivial, trivial, trivial⟩ ?_
    refine T_ret ?_
    exact ret_here [(dt (B false))] (by kernel_rfl) (.inl (congrArg B (by rw [fewHouse]; first | (rw [if_pos (by omega)]; done) | (rw [if_neg (by omega), ← iv, List.drop_eq_nil_of_le (by omega)]; rfl) | (rw [if_neg (by omega), ← iv, drop_cons (by assumption), fewHolds, if_pos (by omega)]) : false = (fewHouse h))))
  · skip
    have g3 : ¬ (((h.b.length : Nat) : Int) > 30) := of_decide_eq_false (h1)
    refine T_reg [{}, {}, { d := some (I ((h.b.length : Nat) : Int)) }, {}, {}, {}, {}, { d := some (I ((h.h.length : Nat) : Int)) }, {}, { d := some (B false) }] [1, 13] [] (mk 29 [(1, (.one (.ref 1 0))), (13, (dt (B (decide (((h.h.length : Nat) : Int) > 30)))))] [(1, (.var [(.dat (.sl 2 (h.b.map encPay))), (.dat (.sl 4 (h.h.map encHold)))]))]) (True ∧ True ∧ True ∧ True ∧ True ∧ (True ∧ D.int .i64 ((h.b.map encPay).length : Int) = (I ((h.b.length : Nat) : Int))) ∧ True ∧ True ∧ True ∧ True ∧ (((decide (((h.b.length : Nat) : Int) > 30)) == false) = true) ∧ True ∧ (((decide (((h.b.length : Nat) : Int) > 30)) == false) = true) ∧ True ∧ (((decide (((h.b.length : Nat) : Int) > 30)) == false) = true) ∧ (True ∧ D.int .i64 ((h.h.map encHold).length : Int) = (I ((h.h.length : Nat) : Int))) ∧ (((decide (((h.b.length : Nat) : Int) > 30)) == false) = true) ∧ True ∧ True ∧ ((decide (((h.b.length : Nat) : Int) > 30)) = false) ∧ True) (by kernel_rfl) ⟨trivial, trivial, trivial, trivial, trivial, ⟨trivial, by rw [List.length_map]⟩, trivial, trivial, trivial, trivial, (by rw [show (decide (((h.b.length : Nat) : Int) > 30)) = false from h1]; rfl), trivial, (by rw [show (decide (((h.b.length : Nat) : Int) > 30)) = false from h1]; rfl), trivial, (by rw [show (decide (((h.b.length : Nat) : Int) > 30)) = false from h1]; rfl), ⟨trivial, by rw [List.length_map]⟩, (by rw [show (decide (((h.b.length : Nat) : Int) > 30)) = false from h1]; rfl), trivial, trivial, h1, trivial⟩ ?_
    refine T_cond (decide (((h.h.length : Nat) : Int) > 30)) (by kernel_rfl) (fun h4 => ?_) (fun h4 => ?_)
    · skip
      have g5 : ((h.h.length : Nat) : Int) > 30 := of_decide_eq_true (h4)
      refine T_reg [] [2] [1] (mk 29 [(2, (dt (B false)))] []) (True ∧ True ∧ True) (by kernel_rfl) ⟨trivial, trivial, trivial⟩ ?_
      refine T_ret ?_
      exact ret_here [(dt (B false))] (by kernel_rfl) (.inl (congrArg B (by rw [fewHouse]; first | (rw [if_pos (by omega)]; done) | (rw [if_neg (by omega), ← iv, List.drop_eq_nil_of_le (by omega)]; rfl) | (rw [if_neg (by omega), ← iv, drop_cons (by assumption), fewHolds, if_pos (by omega)]) : false = (fewHouse h))))
    · skip
      have g6 : ¬ (((h.h.length : Nat) : Int) > 30) := of_decide_eq_false (h4)
      refine T_skip ?_
      refine T_seq ?_
      refine T_reg [] [1, 3] [] (mk 29 [(1, (.one (.ref 1 0))), (3, (dt (I 0)))] [(1, (.var [(.dat (.sl 2 (h.b.map encPay))), (.dat (.sl 4 (h.h.map encHold)))]))]) (True ∧ True ∧ True) (by kernel_rfl) ⟨trivial, trivial, trivial⟩ ?_
      refine T_block ?_
      refine T_turn [] [1, 3] [] ((fun (k : Nat) => (mk 29 [(1, (.one (.ref 1 0))), (3, (dt (I ((k : Nat) : Int))))] [(1, (.var [(.dat (.sl 2 (h.b.map encPay))), (.dat (.sl 4 (h.h.map encHold)))]))])) (0)) (by kernel_rfl) (T_loop (α := Nat) (fun (k : Nat) => (mk 29 [(1, (.one (.ref 1 0))), (3, (dt (I ((k : Nat) : Int))))] [(1, (.var [(.dat (.sl 2 (h.b.map encPay))), (.dat (.sl 4 (h.h.map encHold)))]))])) (fun (k : Nat) => (k ≤ (h.h).length) ∧ (fewHolds (h.h.drop k) = fewHolds h.h) ∧ True) (fun (k : Nat) => (h.h).length - k) (0) ⟨Nat.zero_le _, rfl, trivial⟩ ?_)
      rintro k ⟨ik, iv, _⟩
      refine T_seq ?_
      refine T_reg [{}, {}, {}, { d := some (I ((h.h.length : Nat) : Int)) }] [1, 3, 18] [] (mk 29 [(1, (.one (.ref 1 0))), (3, (dt (I ((k : Nat) : Int)))), (18, (dt (B (decide (((k : Nat) : Int) < ((h.h.length : Nat) : Int))))))] [(1, (.var [(.dat (.sl 2 (h.b.map encPay))), (.dat (.sl 4 (h.h.map encHold)))]))]) (True ∧ True ∧ True ∧ True ∧ True ∧ True ∧ True ∧ (True ∧ D.int .i64 ((h.h.map encHold).length : Int) = (I ((h.h.length : Nat) : Int))) ∧ True ∧ True ∧ True) (by kernel_rfl) ⟨trivial, trivial, trivial, trivial, trivial, trivial, trivial, ⟨trivial, by rw [List.length_map]⟩, trivial, trivial, trivial⟩ ?_
      refine T_cond (decide (((k : Nat) : Int) < ((h.h.length : Nat) : Int))) (by kernel_rfl) (fun h7 => ?_) (fun h7 => ?_)
      · skip
        have g8 : ((k : Nat) : Int) < ((h.h.length : Nat) : Int) := of_decide_eq_true (h7)
        refine T_skip ?_
        refine T_seq ?_
        refine T_block ?_
        have lt9 : k < (h.h).length := by first | omega | (simp only [List.length_set, List.length_map, List.length_append, List.length_cons, List.length_nil] at *; omega)
        obtain ⟨x10, hx11⟩ : ∃ x, (h.h)[k]? = some x := ⟨_, List.getElem?_eq_getElem lt9⟩
        refine T_reg [{}, {}, {}, { d := some (.agg [(I x10.t), (I x10.p), (.sl 2 (x10.ps.map encPay)), (I x10.s)]) }, {}, {}, { d := some (I ((x10.ps.length : Nat) : Int)) }] [1, 3, 28] [] (mk 29 [(1, (.one (.ref 1 0))), (3, (dt (I ((k : Nat) : Int)))), (28, (dt (B (decide (((x10.ps.length : Nat) : Int) > 70)))))] [(1, (.var [(.dat (.sl 2 (h.b.map encPay))), (.dat (.sl 4 (h.h.map encHold)))]))]) (True ∧ True ∧ True ∧ True ∧ True ∧ True ∧ True ∧ (0 ≤ ((k : Nat) : Int) ∧ (h.h.map encHold)[k]? = some (.agg [(I x10.t), (I x10.p), (.sl 2 (x10.ps.map encPay)), (I x10.s)])) ∧ True ∧ True ∧ True ∧ True ∧ True ∧ (True ∧ D.int .i64 ((x10.ps.map encPay).length : Int) = (I ((x10.ps.length : Nat) : Int))) ∧ True ∧ True ∧ True) (by kernel_rfl) ⟨trivial, trivial, trivial, trivial, trivial, trivial, trivial, ⟨by omega, by rw [List.getElem?_map, hx11]; rfl⟩, trivial, trivial, trivial, trivial, trivial, ⟨trivial, by rw [List.length_map]⟩, trivial, trivial, trivial⟩ ?_
        refine T_cond (decide (((x10.ps.length : Nat) : Int) > 70)) (by kernel_rfl) (fun h12 => ?_) (fun h12 => ?_)
        · skip
          have g13 : ((x10.ps.length : Nat) : Int) > 70 := of_decide_eq_true (h12)
          refine T_reg [] [2] [1] (mk 29 [(2, (dt (B false)))] []) (True ∧ True ∧ True) (by kernel_rfl) ⟨trivial, trivial, trivial⟩ ?_
          refine T_ret ?_
          exact ret_here [(dt (B false))] (by kernel_rfl) (.inl (congrArg B (by rw [fewHouse]; first | (rw [if_pos (by omega)]; done) | (rw [if_neg (by omega), ← iv, List.drop_eq_nil_of_le (by omega)]; rfl) | (rw [if_neg (by omega), ← iv, drop_cons (by assumption), fewHolds, if_pos (by omega)]) : false = (fewHouse h))))
        · skip
          have g14 : ¬ (((x10.ps.length : Nat) : Int) > 70) := of_decide_eq_false (h12)
          refine T_skip ?_
          refine T_regE [{}, { d := some (I ((k + 1 : Nat) : Int)) }] (mk 29 [(1, (.one (.ref 1 0))), (3, (dt (I ((k + 1 : Nat) : Int)))), (19, (dt (I ((k : Nat) : Int)))), (20, (dt (I ((k + 1 : Nat) : Int)))), (28, (dt (B (decide (((x10.ps.length : Nat) : Int) > 70)))))] [(1, (.var [(.dat (.sl 2 (h.b.map encPay))), (.dat (.sl 4 (h.h.map encHold)))]))]) (True ∧ True ∧ True ∧ (IntKind.i64.wrap (((k : Nat) : Int) + 1) = ((k + 1 : Nat) : Int)) ∧ True ∧ True ∧ True) (by kernel_rfl) ⟨trivial, trivial, trivial, (by rw [i64_wrap (by omega) (by omega)]; omega), trivial, trivial, trivial⟩ ?_
          refine Exists.intro (k + 1) ⟨⟨by omega, by rw [← iv, drop_cons hx11, fewHolds, if_neg (by omega)], trivial⟩, by first | omega | (dsimp only; omega), le_turn [] [1, 3] [] (by kernel_rfl)⟩
      · skip
        have g15 : ¬ (((k : Nat) : Int) < ((h.h.length : Nat) : Int)) := of_decide_eq_false (h7)
        refine T_exit ?_
        refine T_reg [] [2] [1] (mk 29 [(2, (dt (B true)))] []) (True ∧ True ∧ True) (by kernel_rfl) ⟨trivial, trivial, trivial⟩ ?_
        refine T_ret ?_
        exact ret_here [(dt (B true))] (by kernel_rfl) (.inl (congrArg B (by rw [fewHouse]; first | (rw [if_pos (by omega)]; done) | (rw [if_neg (by omega), ← iv, List.drop_eq_nil_of_le (by omega)]; rfl) | (rw [if_neg (by omega), ← iv, drop_cons (by assumption), fewHolds, if_pos (by omega)]) : true = (fewHouse h))))

theorem ret_isNaN (x : Int) : Ret Try.prog 72 [(I x)] (B false) := by
  refine Ret.of_T Try.func72 (by kernel_rfl) rfl ?_
  refine T_turn [] [0] [] (mk 6 [(0, (dt (I x)))] []) (by kernel_rfl) ?_
  refine T_reg [] [0] [] (mk 6 [(0, (dt (I x)))] []) (True ∧ True ∧ True) (by kernel_rfl) ⟨trivial, trivial, trivial⟩ ?_
  refine T_reg [] [2] [] (mk 6 [(2, (dt (B (x != x))))] []) (True ∧ True ∧ True ∧ True ∧ True ∧ True ∧ True ∧ True ∧ True) (by kernel_rfl) ⟨trivial, trivial, trivial, trivial, trivial, trivial, trivial, trivial, trivial⟩ ?_
  refine T_ret ?_
  exact ret_here [(dt (B (x != x)))] (by kernel_rfl) (.inl (congrArg B (by simp : (x != x) = false)))

theorem ret_cmp (x y : Int) : Ret Try.prog 60 [(I x), (I y)] (I (cmpI x y)) := by
  refine Ret.of_T Try.func60 (by kernel_rfl) rfl ?_
  refine T_turn [] [0, 1] [] (mk 20 [(0, (dt (I x))), (1, (dt (I y)))] []) (by kernel_rfl) ?_
  refine T_reg [] [0, 1] [] (mk 20 [(0, (dt (I x))), (1, (dt (I y)))] []) (True ∧ True ∧ True) (by kernel_rfl) ⟨trivial, trivial, trivial⟩ ?_
  refine T_reg [{}, { d := some (B false) }] [0, 1, 5] [] (mk 20 [(0, (dt (I x))), (1, (dt (I y))), (5, (dt (B false)))] []) (True ∧ True ∧ True ∧ (Ret Try.prog 72 [(I x)] (B false)) ∧ True ∧ True ∧ True) (by kernel_rfl) ⟨trivial, trivial, trivial, (ret_isNaN _), trivial, trivial, trivial⟩ ?_
  refine T_reg [{}, { d := some (B false) }] [0, 1, 5, 6] [] (mk 20 [(0, (dt (I x))), (1, (dt (I y))), (5, (dt (B false))), (6, (dt (B false)))] []) (True ∧ True ∧ True ∧ (Ret Try.prog 72 [(I y)] (B false)) ∧ True ∧ True ∧ True) (by kernel_rfl) ⟨trivial, trivial, trivial, (ret_isNaN _), trivial, trivial, trivial⟩ ?_
  refine T_seq ?_
  refine T_reg [] [0, 1, 6, 11] [] (mk 20 [(0, (dt (I x))), (1, (dt (I y))), (6, (dt (B false))), (11, (dt (B false)))] []) (True ∧ True ∧ True) (by kernel_rfl) ⟨trivial, trivial, trivial⟩ ?_
  refine T_cond false (by kernel_rfl) (fun h => absurd (h.symm.trans rfl) (by decide)) (fun _ => ?_)
  refine T_skip ?_
  refine T_seq ?_
  refine T_reg [] [0, 1, 13] [] (mk 20 [(0, (dt (I x))), (1, (dt (I y))), (13, (dt (B false)))] []) (True ∧ True ∧ True) (by kernel_rfl) ⟨trivial, trivial, trivial⟩ ?_
  refine T_cond false (by kernel_rfl) (fun h => absurd (h.symm.trans rfl) (by decide)) (fun _ => ?_)
  refine T_skip ?_
  refine T_seq ?_
  refine T_reg [] [0, 1, 16] [] (mk 20 [(0, (dt (I x))), (1, (dt (I y))), (16, (dt (B (decide (x < y)))))] []) (True ∧ True ∧ True ∧ True ∧ True ∧ True ∧ True) (by kernel_rfl) ⟨trivial, trivial, trivial, trivial, trivial, trivial, trivial⟩ ?_
  refine T_cond (decide (x < y)) (by kernel_rfl) (fun h1 => ?_) (fun h1 => ?_)
  · skip
    have g2 : x < y := of_decide_eq_true (h1)
    refine T_reg [] [4] [] (mk 20 [(4, (dt (I (-1))))] []) (True ∧ True ∧ True) (by kernel_rfl) ⟨trivial, trivial, trivial⟩ ?_
    refine T_ret ?_
    exact ret_here [(dt (I (-1)))] (by kernel_rfl) (.inl (congrArg I (by rw [cmpI]; first | (rw [if_pos (by omega)]; done) | (rw [if_neg (by omega), if_pos (by omega)]; done) | (rw [if_neg (by omega), if_neg (by omega)]) : (-1) = (cmpI x y))))
  · skip
    have g3 : ¬ (x < y) := of_decide_eq_false (h1)
    refine T_skip ?_
    refine T_seq ?_
    refine T_reg [] [19] [] (mk 20 [(19, (dt (B (decide (x > y)))))] []) (True ∧ True ∧ True ∧ True ∧ True ∧ True ∧ True) (by kernel_rfl) ⟨trivial, trivial, trivial, trivial, trivial, trivial, trivial⟩ ?_
    refine T_cond (decide (x > y)) (by kernel_rfl) (fun h4 => ?_) (fun h4 => ?_)
    · skip
      have g5 : x > y := of_decide_eq_true (h4)
      refine T_reg [] [4] [] (mk 20 [(4, (dt (I 1)))] []) (True ∧ True ∧ True) (by kernel_rfl) ⟨trivial, trivial, trivial⟩ ?_
      refine T_ret ?_
      exact ret_here [(dt (I 1))] (by kernel_rfl) (.inl (congrArg I (by rw [cmpI]; first | (rw [if_pos (by omega)]; done) | (rw [if_neg (by omega), if_pos (by omega)]; done) | (rw [if_neg (by omega), if_neg (by omega)]) : 1 = (cmpI x y))))
    · skip
      have g6 : ¬ (x > y) := of_decide_eq_false (h4)
      refine T_skip ?_
      refine T_reg [] [4] [] (mk 20 [(4, (dt (I 0)))] []) (True ∧ True ∧ True) (by kernel_rfl) ⟨trivial, trivial, trivial⟩ ?_
      refine T_ret ?_
      exact ret_here [(dt (I 0))] (by kernel_rfl) (.inl (congrArg I (by rw [cmpI]; first | (rw [if_pos (by omega)]; done) | (rw [if_neg (by omega), if_pos (by omega)]; done) | (rw [if_neg (by omega), if_neg (by omega)]) : 0 = (cmpI x y))))

end Go.Proofs.Ytpkbecaailhhmaa
