/-
  Texts that belong together, one behind the other; what each of them proves, and under which conditions, its own heading says.
-/
import Derived.Test.YtpkbecaailhhmaaRows
import Derived.Laws.CopyRow
import Derived.Lib.Overlaps
import Derived.Lib.Walk
import Derived.Lib.SliceRun
import Derived.Lib.AppendZeros
import Derived.Laws.Externs
import Derived.Shelf.RegionOpenPlain
import Derived.Lib.BufferOwn
import Derived.Lib.AppendZerosOnto
import Derived.Laws.CopyOwn
import Derived.Test.YtpkbecaailhhmaaKb
/-
  Walks at the data level, printed by gen.py: what each Go function returns, for data that reads as said. Conditions: those of each theorem.
-/
namespace Go.Proofs.Ytpkbecaailhhmaa
open Go.DL
set_option maxRecDepth 100000
set_option linter.unusedVariables false
set_option linter.unusedSimpArgs false
theorem ret_new (l : List Int) (hl : l.length * 16 ≤ 140737488355328) : Ret Try.prog 12 [(.sl 1 (l.map encI))] (.tup [(.agg [(.sl 2 ((newB l).map encPay)), (.sl 4 (([] : List Hold).map encHold))]), (I (newE l))]) := by
  refine Ret.of_T Try.func12 (by kernel_rfl) rfl ?_
  refine T_turn [] [0] [] (mk 25 [(0, (dt (.sl 1 (l.map encI))))] []) (by kernel_rfl) ?_
  refine T_reg [] [0, 2] [] (mk 25 [(0, (dt (.sl 1 (l.map encI)))), (2, (.one (.ref 2 0)))] [(2, (.var [(.dat nilS), (.dat nilS)]))]) (True ∧ True ∧ True ∧ True ∧ True) (by kernel_rfl) ⟨trivial, trivial, trivial, trivial, trivial⟩ ?_
  refine T_seq ?_
  refine T_reg [{}, { d := some (B (areClubs l)) }] [0, 2, 8] [] (mk 25 [(0, (dt (.sl 1 (l.map encI)))), (2, (.one (.ref 2 0))), (8, (dt (B (!(areClubs l)))))] [(2, (.var [(.dat nilS), (.dat nilS)]))]) (True ∧ True ∧ True ∧ (Ret Try.prog 33 [(.sl 1 (l.map encI))] (B (areClubs l))) ∧ True ∧ True ∧ True) (by kernel_rfl) ⟨trivial, trivial, trivial, (ret_areClubs _ (by omega)), trivial, trivial, trivial⟩ ?_
  refine T_cond (!(areClubs l)) (by kernel_rfl) (fun h1 => ?_) (fun h1 => ?_)
  · skip
    have n2 : (areClubs l) = false := not_t h1
    refine T_reg [] [2, 3] [] (mk 25 [(2, (.one (.ref 2 0))), (3, (dt (I 190)))] [(2, (.var [(.dat nilS), (.dat nilS)]))]) (True ∧ True ∧ True ∧ True ∧ True ∧ True ∧ True) (by kernel_rfl) ⟨trivial, trivial, trivial, trivial, trivial, trivial, trivial⟩ ?_
    refine T_ret ?_
    exact ret_here [(.agg [(.dat nilS), (.dat nilS)]), (dt (I 190))] (by kernel_rfl) ⟨⟨(.inr ⟨rfl, 2, (by show D.sl _ _ = _; exact congrArg (fun l => D.sl 2 (l.map encPay)) (by first | rfl | (rw [newE, if_pos (by assumption)]; done) | (rw [newE, if_neg (by simp_all)]; done) | (rw [newB, if_neg (by simp_all)]; done) | (rw [newB, if_pos (by assumption), im, List.take_of_length_le (by omega)]; done) : (newB l) = []))⟩), (.inr ⟨rfl, 4, (by show D.sl _ _ = _; exact congrArg (fun l => D.sl 4 (l.map encHold)) (by first | rfl | (rw [newE, if_pos (by assumption)]; done) | (rw [newE, if_neg (by simp_all)]; done) | (rw [newB, if_neg (by simp_all)]; done) | (rw [newB, if_pos (by assumption), im, List.take_of_length_le (by omega)]; done) : ([] : List Hold) = []))⟩), trivial⟩, (.inl (congrArg I (by first | rfl | (rw [newE, if_pos (by assumption)]; done) | (rw [newE, if_neg (by simp_all)]; done) | (rw [newB, if_neg (by simp_all)]; done) | (rw [newB, if_pos (by assumption), im, List.take_of_length_le (by omega)]; done) : 190 = (newE l)))), trivial⟩
  · skip
    have n3 : (areClubs l) = true := not_f h1
    refine T_skip ?_
    refine T_seq ?_
    refine T_reg [{}, { d := some (I ((l.length : Nat) : Int)) }] [2, 10, 11, 12] [] (mk 25 [(2, (.one (.ref 2 0))), (10, (dt (.sl 1 (l.map encI)))), (11, (dt (I ((l.length : Nat) : Int)))), (12, (dt (I 0)))] [(2, (.var [(.dat nilS), (.dat nilS)]))]) (True ∧ True ∧ True ∧ (True ∧ D.int .i64 ((l.map encI).length : Int) = (I ((l.length : Nat) : Int))) ∧ True ∧ True ∧ True) (by kernel_rfl) ⟨trivial, trivial, trivial, ⟨trivial, by rw [List.length_map]⟩, trivial, trivial, trivial⟩ ?_
    refine T_block ?_
    refine T_ownCell 2 0 21 51 2 (mk 25 [(2, (.one (.ref 2 0))), (10, (dt (.sl 1 (l.map encI)))), (11, (dt (I ((l.length : Nat) : Int)))), (12, (dt (I 0)))] [(21, (.row 51 2 (([] : List Pay).map encPay))), (2, (.var [(.own 21), (.dat nilS)]))]) (by kernel_rfl) (by decide) ?_
    refine T_turn [] [2, 10, 11, 12] [] ((fun ((k, m) : Nat × List Pay) => (mk 25 [(2, (.one (.ref 2 0))), (10, (dt (.sl 1 (l.map encI)))), (11, (dt (I ((l.length : Nat) : Int)))), (12, (dt (I ((k : Nat) : Int))))] [(21, (.row 51 2 (m.map encPay))), (2, (.var [(.own 21), (.dat nilS)]))])) (0, ([] : List Pay))) (by kernel_rfl) (T_loop (α := Nat × List Pay) (fun ((k, m) : Nat × List Pay) => (mk 25 [(2, (.one (.ref 2 0))), (10, (dt (.sl 1 (l.map encI)))), (11, (dt (I ((l.length : Nat) : Int)))), (12, (dt (I ((k : Nat) : Int))))] [(21, (.row 51 2 (m.map encPay))), (2, (.var [(.own 21), (.dat nilS)]))])) (fun ((k, m) : Nat × List Pay) => (k ≤ (l).length) ∧ (m = (l.take k).map (fun c => (⟨c, 0⟩ : Pay))) ∧ True) (fun ((k, m) : Nat × List Pay) => (l).length - k) (0, ([] : List Pay)) ⟨Nat.zero_le _, rfl, trivial⟩ ?_)
    rintro ⟨k, m⟩ ⟨ik, im, _⟩
    refine T_reg [] [2, 10, 11, 12, 13] [] (mk 25 [(2, (.one (.ref 2 0))), (10, (dt (.sl 1 (l.map encI)))), (11, (dt (I ((l.length : Nat) : Int)))), (12, (dt (I ((k : Nat) : Int)))), (13, (dt (B (decide (((k : Nat) : Int) < ((l.length : Nat) : Int))))))] [(21, (.row 51 2 (m.map encPay))), (2, (.var [(.own 21), (.dat nilS)]))]) (True ∧ True ∧ True) (by kernel_rfl) ⟨trivial, trivial, trivial⟩ ?_
    refine T_seq ?_
    refine T_cond (decide (((k : Nat) : Int) < ((l.length : Nat) : Int))) (by kernel_rfl) (fun h4 => ?_) (fun h4 => ?_)
    · skip
      have g5 : ((k : Nat) : Int) < ((l.length : Nat) : Int) := of_decide_eq_true (h4)
      refine T_skip ?_
      refine T_seq ?_
      refine T_block ?_
      have lt6 : k < (l).length := by first | omega | (simp only [List.length_set, List.length_map, List.length_append, List.length_cons, List.length_nil] at *; omega)
      obtain ⟨x7, hx8⟩ : ∃ x, (l)[k]? = some x := ⟨_, List.getElem?_eq_getElem lt6⟩
      refine T_reg [{ d := some (I x7) }] [2, 5, 10, 11, 12] [] (mk 25 [(2, (.one (.ref 2 0))), (5, (dt (I x7))), (10, (dt (.sl 1 (l.map encI)))), (11, (dt (I ((l.length : Nat) : Int)))), (12, (dt (I ((k : Nat) : Int))))] [(21, (.row 51 2 (m.map encPay))), (2, (.var [(.own 21), (.dat nilS)]))]) (True ∧ (0 ≤ ((k : Nat) : Int) ∧ (l.map encI)[k]? = some (I x7)) ∧ True ∧ True ∧ True ∧ True ∧ True) (by kernel_rfl) ⟨trivial, ⟨by omega, by rw [List.getElem?_map, hx8]; rfl⟩, trivial, trivial, trivial, trivial, trivial⟩ ?_
      refine T_regE [{}, {}, {}, {}, {}, { d := some (.sl 2 ((m ++ [(⟨x7, 0⟩ : Pay)]).map encPay)) }] (mk 25 [(2, (.one (.ref 2 0))), (5, (dt (I x7))), (10, (dt (.sl 1 (l.map encI)))), (11, (dt (I ((l.length : Nat) : Int)))), (12, (dt (I ((k : Nat) : Int)))), (16, (.one (.ref 2 0))), (18, (dt (I x7))), (19, (.agg [(.dat (I x7)), (.dat (I 0))])), (20, (.one (.own 20))), (21, (.one (.own 21))), (22, (.one (.ref 2 0)))] [(21, (.row 51 2 ((m ++ [(⟨x7, 0⟩ : Pay)]).map encPay))), (20, (.row 51 2 ([(⟨x7, 0⟩ : Pay)].map encPay))), (2, (.var [(.own 21), (.dat nilS)]))]) (True ∧ True ∧ True ∧ True ∧ True ∧ True ∧ True ∧ True ∧ True ∧ (dfill (fun i => some (i * 2, 2)) (List.replicate (1 * 2) .junk) [(0, [(.dat (I x7)), (.dat (I 0))])] = some ((flat ([(⟨x7, 0⟩ : Pay)].map encPay)).map .dat)) ∧ True ∧ (((m.map encPay).length + ([(⟨x7, 0⟩ : Pay)].map encPay).length) * 16 ≤ 140737488355328 ∧ cellsOne ([(⟨x7, 0⟩ : Pay)].map encPay) ∧ (m.map encPay) ++ [(⟨x7, 0⟩ : Pay)].map encPay = (m ++ [(⟨x7, 0⟩ : Pay)]).map encPay) ∧ True ∧ True ∧ True ∧ True ∧ True) (by kernel_rfl) ⟨trivial, trivial, trivial, trivial, trivial, trivial, trivial, trivial, trivial, rfl, trivial, ⟨by simp only [List.length_map, List.length_nil, List.length_cons]; (have := congrArg List.length im; simp only [List.length_map, List.length_take] at this; omega), encPay_one _, by simp⟩, trivial, trivial, trivial, trivial, trivial⟩ ?_
      refine T_regE [{ d := some (I ((k + 1 : Nat) : Int)) }] (mk 25 [(2, (.one (.ref 2 0))), (5, (dt (I x7))), (10, (dt (.sl 1 (l.map encI)))), (11, (dt (I ((l.length : Nat) : Int)))), (12, (dt (I ((k + 1 : Nat) : Int)))), (16, (.one (.ref 2 0))), (18, (dt (I x7))), (19, (.agg [(.dat (I x7)), (.dat (I 0))])), (20, (.one (.own 20))), (21, (.one (.own 21))), (22, (.one (.ref 2 0))), (23, (dt (I ((k + 1 : Nat) : Int))))] [(21, (.row 51 2 ((m ++ [(⟨x7, 0⟩ : Pay)]).map encPay))), (20, (.row 51 2 ([(⟨x7, 0⟩ : Pay)].map encPay))), (2, (.var [(.own 21), (.dat nilS)]))]) (True ∧ (IntKind.i64.wrap (((k : Nat) : Int) + 1) = ((k + 1 : Nat) : Int)) ∧ True ∧ True ∧ True) (by kernel_rfl) ⟨trivial, (by rw [i64_wrap (by omega) (by omega)]; omega), trivial, trivial, trivial⟩ ?_
      refine Exists.intro (k + 1, (m ++ [(⟨x7, 0⟩ : Pay)])) ⟨⟨by omega, by rw [im, take_snoc hx8]; simp, trivial⟩, by first | omega | (dsimp only; omega), le_turn [] [2, 10, 11, 12] [20] (by kernel_rfl)⟩
    · skip
      have g9 : ¬ (((k : Nat) : Int) < ((l.length : Nat) : Int)) := of_decide_eq_false (h4)
      refine T_exit ?_
      refine T_reg [] [2, 3] [] (mk 25 [(2, (.one (.ref 2 0))), (3, (dt (I 0)))] [(21, (.row 51 2 (m.map encPay))), (2, (.var [(.own 21), (.dat nilS)]))]) (True ∧ True ∧ True ∧ True ∧ True ∧ True ∧ True) (by kernel_rfl) ⟨trivial, trivial, trivial, trivial, trivial, trivial, trivial⟩ ?_
      refine T_ret ?_
      exact ret_here [(.agg [(.own 21), (.dat nilS)]), (dt (I 0))] (by kernel_rfl) ⟨⟨(by show D.sl 2 ((newB l).map encPay) = D.sl 2 (m.map encPay); exact congrArg (fun l => D.sl 2 (l.map encPay)) (by first | rfl | (rw [newE, if_pos (by assumption)]; done) | (rw [newE, if_neg (by simp_all)]; done) | (rw [newB, if_neg (by simp_all)]; done) | (rw [newB, if_pos (by assumption), im, List.take_of_length_le (by omega)]; done) : (newB l) = m)), (.inr ⟨rfl, 4, (by show D.sl _ _ = _; exact congrArg (fun l => D.sl 4 (l.map encHold)) (by first | rfl | (rw [newE, if_pos (by assumption)]; done) | (rw [newE, if_neg (by simp_all)]; done) | (rw [newB, if_neg (by simp_all)]; done) | (rw [newB, if_pos (by assumption), im, List.take_of_length_le (by omega)]; done) : ([] : List Hold) = []))⟩), trivial⟩, (.inl (congrArg I (by first | rfl | (rw [newE, if_pos (by assumption)]; done) | (rw [newE, if_neg (by simp_all)]; done) | (rw [newB, if_neg (by simp_all)]; done) | (rw [newB, if_pos (by assumption), im, List.take_of_length_le (by omega)]; done) : 0 = (newE l)))), trivial⟩

theorem ret_credited (bl ps : List Pay) (hbl : bl.length * 16 ≤ 140737488355328) (hps : ps.length ≤ 140737488355328) (hne : bl ≠ []) : Ret Try.prog 41 [(.sl 2 (bl.map encPay)), (.sl 2 (ps.map encPay))] (.sl 2 ((cred bl ps).map encPay)) := by
  refine Ret.of_T Try.func41 (by kernel_rfl) rfl ?_
  refine T_turn [] [0, 1] [] (mk 23 [(0, (dt (.sl 2 (bl.map encPay)))), (1, (dt (.sl 2 (ps.map encPay))))] []) (by kernel_rfl) ?_
  refine T_reg [] [0, 1] [] (mk 23 [(0, (dt (.sl 2 (bl.map encPay)))), (1, (dt (.sl 2 (ps.map encPay))))] []) (True ∧ True ∧ True) (by kernel_rfl) ⟨trivial, trivial, trivial⟩ ?_
  refine T_seq (T_parts ?_)
  refine TL_part 1 [] (mk 23 [(0, (dt (.sl 2 (bl.map encPay)))), (1, (dt (.sl 2 (ps.map encPay)))), (9, (dt (.sl 2 (bl.map encPay))))] []) (True ∧ True ∧ True) (by kernel_rfl) ⟨trivial, trivial, trivial⟩ rfl ?_
  refine TL_inline 23 56 [] Try.f56 _ rfl rfl (by kernel_rfl) Try.func56 rfl rfl (by decide) ?_
  refine T_turn [] [0] [] (mk 8 [(0, (dt (.sl 2 (bl.map encPay))))] []) (by kernel_rfl) ?_
  refine T_reg [] [0] [] (mk 8 [(0, (dt (.sl 2 (bl.map encPay))))] []) (True ∧ True ∧ True) (by kernel_rfl) ⟨trivial, trivial, trivial⟩ ?_
  refine T_seq ?_
  refine T_reg [] [0, 4] [] (mk 8 [(0, (dt (.sl 2 (bl.map encPay)))), (4, (dt (B false)))] []) (True ∧ True ∧ True ∧ (bl.map encPay ≠ []) ∧ True) (by kernel_rfl) ⟨trivial, trivial, trivial, (by simpa using hne), trivial⟩ ?_
  refine T_cond false (by kernel_rfl) (fun h => absurd (h.symm.trans rfl) (by decide)) (fun _ => ?_)
  refine T_skip ?_
  refine T_reg [{}, {}, { d := some (.sl 2 (bl.map encPay)) }] [2] [] (mk 8 [(2, (.one (.own 30)))] [(30, (.row 51 2 (bl.map encPay)))]) (True ∧ (dfill (fun i => some (i * 2, 2)) (List.replicate (0 * 2) .junk) [] = some ((flat (([] : List Pay).map encPay)).map .dat)) ∧ True ∧ True ∧ True ∧ (((([] : List Pay).map encPay).length + (bl.map encPay).length) * 16 ≤ 140737488355328 ∧ cellsOne (bl.map encPay) ∧ (([] : List Pay).map encPay) ++ bl.map encPay = bl.map encPay) ∧ True ∧ True ∧ True) (by kernel_rfl) ⟨trivial, rfl, trivial, trivial, trivial, ⟨by simp only [List.length_map, List.length_nil, List.length_cons]; omega, encPay_one _, by simp⟩, trivial, trivial, trivial⟩ ?_
  refine T_ret ?_
  refine ⟨[(.one (.own 30))], by kernel_rfl, ?_⟩
  refine TL_turn [] [1, 5, 10] [] (mk 23 [(1, (dt (.sl 2 (ps.map encPay)))), (10, (.one (.own 30)))] [(30, (.row 51 2 (bl.map encPay)))]) (by kernel_rfl) ?_
  refine TL_part 2 [] (mk 23 [(1, (dt (.sl 2 (ps.map encPay)))), (5, (.one (.ref 5 0))), (10, (.one (.own 30)))] [(5, (.var [(.own 30)])), (30, (.row 51 2 (bl.map encPay)))]) (True ∧ True ∧ True ∧ True ∧ True) (by kernel_rfl) ⟨trivial, trivial, trivial, trivial, trivial⟩ rfl ?_
  refine TL_nilQ ?_
  refine T_turn [] [1, 5] [] (mk 23 [(1, (dt (.sl 2 (ps.map encPay)))), (5, (.one (.ref 5 0)))] [(5, (.var [(.own 30)])), (30, (.row 51 2 (bl.map encPay)))]) (by kernel_rfl) ?_
  refine T_reg [] [1, 5, 6] [] (mk 23 [(1, (dt (.sl 2 (ps.map encPay)))), (5, (.one (.ref 5 0))), (6, (.one (.fn 57 [.inl 5])))] [(5, (.var [(.own 30)])), (30, (.row 51 2 (bl.map encPay)))]) (True ∧ True ∧ True ∧ True ∧ True) (by kernel_rfl) ⟨trivial, trivial, trivial, trivial, trivial⟩ ?_
  refine T_seq ?_
  refine T_reg [{}, { d := some (I ((ps.length : Nat) : Int)) }] [5, 6, 12, 13, 14] [] (mk 23 [(5, (.one (.ref 5 0))), (6, (.one (.fn 57 [.inl 5]))), (12, (dt (.sl 2 (ps.map encPay)))), (13, (dt (I ((ps.length : Nat) : Int)))), (14, (dt (I 0)))] [(5, (.var [(.own 30)])), (30, (.row 51 2 (bl.map encPay)))]) (True ∧ True ∧ True ∧ (True ∧ D.int .i64 ((ps.map encPay).length : Int) = (I ((ps.length : Nat) : Int))) ∧ True ∧ True ∧ True) (by kernel_rfl) ⟨trivial, trivial, trivial, ⟨trivial, by rw [List.length_map]⟩, trivial, trivial, trivial⟩ ?_
  refine T_block ?_
  refine T_turn [] [5, 6, 12, 13, 14] [] ((fun ((k, m) : Nat × List Pay) => (mk 23 [(5, (.one (.ref 5 0))), (6, (.one (.fn 57 [.inl 5]))), (12, (dt (.sl 2 (ps.map encPay)))), (13, (dt (I ((ps.length : Nat) : Int)))), (14, (dt (I ((k : Nat) : Int))))] [(5, (.var [(.own 30)])), (30, (.row 51 2 (m.map encPay)))])) (0, bl)) (by kernel_rfl) (T_loop (α := Nat × List Pay) (fun ((k, m) : Nat × List Pay) => (mk 23 [(5, (.one (.ref 5 0))), (6, (.one (.fn 57 [.inl 5]))), (12, (dt (.sl 2 (ps.map encPay)))), (13, (dt (I ((ps.length : Nat) : Int)))), (14, (dt (I ((k : Nat) : Int))))] [(5, (.var [(.own 30)])), (30, (.row 51 2 (m.map encPay)))])) (fun ((k, m) : Nat × List Pay) => (k ≤ (ps).length) ∧ (cred m (ps.drop k) = cred bl ps) ∧ (m.length = bl.length) ∧ True) (fun ((k, m) : Nat × List Pay) => (ps).length - k) (0, bl) ⟨Nat.zero_le _, rfl, rfl, trivial⟩ ?_)
  rintro ⟨k, m⟩ ⟨ik, iv, im, _⟩
  refine T_reg [] [5, 6, 12, 13, 14, 15] [] (mk 23 [(5, (.one (.ref 5 0))), (6, (.one (.fn 57 [.inl 5]))), (12, (dt (.sl 2 (ps.map encPay)))), (13, (dt (I ((ps.length : Nat) : Int)))), (14, (dt (I ((k : Nat) : Int)))), (15, (dt (B (decide (((k : Nat) : Int) < ((ps.length : Nat) : Int))))))] [(5, (.var [(.own 30)])), (30, (.row 51 2 (m.map encPay)))]) (True ∧ True ∧ True) (by kernel_rfl) ⟨trivial, trivial, trivial⟩ ?_
  refine T_seq ?_
  refine T_cond (decide (((k : Nat) : Int) < ((ps.length : Nat) : Int))) (by kernel_rfl) (fun h1 => ?_) (fun h1 => ?_)
  · skip
    have g2 : ((k : Nat) : Int) < ((ps.length : Nat) : Int) := of_decide_eq_true (h1)
    refine T_skip ?_
    refine T_seq ?_
    refine T_block ?_
    have lt3 : k < (ps).length := by first | omega | exact met_lt (by assumption)
    obtain ⟨x4, hx5⟩ : ∃ x, (ps)[k]? = some x := ⟨_, List.getElem?_eq_getElem lt3⟩
    refine T_reg [{ d := some (.agg [(I x4.c), (I x4.a)]) }] [5, 6, 8, 12, 13, 14] [] (mk 23 [(5, (.one (.ref 5 0))), (6, (.one (.fn 57 [.inl 5]))), (8, (.one (.ref 8 0))), (12, (dt (.sl 2 (ps.map encPay)))), (13, (dt (I ((ps.length : Nat) : Int)))), (14, (dt (I ((k : Nat) : Int))))] [(8, (.var [(.dat (I x4.c)), (.dat (I x4.a))])), (5, (.var [(.own 30)])), (30, (.row 51 2 (m.map encPay)))]) (True ∧ (0 ≤ ((k : Nat) : Int) ∧ (ps.map encPay)[k]? = some (.agg [(I x4.c), (I x4.a)])) ∧ True ∧ True ∧ True ∧ True ∧ True ∧ True ∧ True) (by kernel_rfl) ⟨trivial, ⟨by omega, by rw [List.getElem?_map, hx5]; rfl⟩, trivial, trivial, trivial, trivial, trivial, trivial, trivial⟩ ?_
    refine T_parts ?_
    refine TL_part 2 [] (mk 23 [(5, (.one (.ref 5 0))), (6, (.one (.fn 57 [.inl 5]))), (8, (.one (.ref 8 0))), (12, (dt (.sl 2 (ps.map encPay)))), (13, (dt (I ((ps.length : Nat) : Int)))), (14, (dt (I ((k : Nat) : Int)))), (18, (.one (.fn 57 [.inl 5]))), (19, (.agg [(.dat (I x4.c)), (.dat (I x4.a))]))] [(8, (.var [(.dat (I x4.c)), (.dat (I x4.a))])), (5, (.var [(.own 30)])), (30, (.row 51 2 (m.map encPay)))]) (True ∧ True ∧ True ∧ True ∧ True) (by kernel_rfl) ⟨trivial, trivial, trivial, trivial, trivial⟩ rfl ?_
    refine TL_inline 31 57 [.inl 5] Try.f57 _ rfl rfl (by kernel_rfl) Try.func57 rfl rfl (by decide) ?_
    refine T_turn [] [0, 1] [] (mk 23 [(0, (.agg [(.dat (I x4.c)), (.dat (I x4.a))])), (1, (.one (.ref 5 0)))] [(8, (.var [(.dat (I x4.c)), (.dat (I x4.a))])), (5, (.var [(.own 30)])), (30, (.row 51 2 (m.map encPay)))]) (by kernel_rfl) ?_
    refine T_reg [] [1, 2] [8] (mk 23 [(1, (.one (.ref 5 0))), (2, (.one (.ref 33 0)))] [(33, (.var [(.dat (I x4.c)), (.dat (I x4.a))])), (5, (.var [(.own 30)])), (30, (.row 51 2 (m.map encPay)))]) (True ∧ True ∧ True) (by kernel_rfl) ⟨trivial, trivial, trivial⟩ ?_
    refine T_reg [{}, {}, {}, { d := some (.tup [(I (((bsAt (m.map (·.c)) x4.c) : Nat) : Int)), (B (bsMet (m.map (·.c)) x4.c))]) }] [1, 2, 3, 4] [] (mk 23 [(1, (.one (.ref 5 0))), (2, (.one (.ref 33 0))), (3, (dt (I (((bsAt (m.map (·.c)) x4.c) : Nat) : Int)))), (4, (dt (B (bsMet (m.map (·.c)) x4.c))))] [(33, (.var [(.dat (I x4.c)), (.dat (I x4.a))])), (5, (.var [(.own 30)])), (30, (.row 51 2 (m.map encPay)))]) (True ∧ True ∧ True ∧ True ∧ True ∧ True ∧ True ∧ (Ret Try.prog 54 [(.sl 2 (m.map encPay)), (I x4.c), (.fn 55 [])] (.tup [(I (((bsAt (m.map (·.c)) x4.c) : Nat) : Int)), (B (bsMet (m.map (·.c)) x4.c))])) ∧ True ∧ True ∧ True ∧ True ∧ True ∧ True ∧ True ∧ True ∧ True ∧ True ∧ True) (by kernel_rfl) ⟨trivial, trivial, trivial, trivial, trivial, trivial, trivial, (ret_findClub _ _ (by omega)), trivial, trivial, trivial, trivial, trivial, trivial, trivial, trivial, trivial, trivial, trivial⟩ ?_
    refine T_reg [] [1, 2, 3, 12] [] (mk 23 [(1, (.one (.ref 5 0))), (2, (.one (.ref 33 0))), (3, (dt (I (((bsAt (m.map (·.c)) x4.c) : Nat) : Int)))), (12, (dt (B (bsMet (m.map (·.c)) x4.c))))] [(33, (.var [(.dat (I x4.c)), (.dat (I x4.a))])), (5, (.var [(.own 30)])), (30, (.row 51 2 (m.map encPay)))]) (True ∧ True ∧ True) (by kernel_rfl) ⟨trivial, trivial, trivial⟩ ?_
    refine T_cond (bsMet (m.map (·.c)) x4.c) (by kernel_rfl) (fun h6 => ?_) (fun h6 => ?_)
    · skip
      have lt7 : (bsAt (m.map (·.c)) x4.c) < (m).length := by first | omega | exact met_lt (by assumption)
      obtain ⟨x8, hx9⟩ : ∃ x, (m)[(bsAt (m.map (·.c)) x4.c)]? = some x := ⟨_, List.getElem?_eq_getElem lt7⟩
      refine T_regDE 10 [{}, {}, {}, {}, { d := some (.agg [(I x8.c), (I x8.a)]) }, {}, {}, {}, {}, {}, { d := some (.tup [(.agg [(I x8.c), (I x8.a)]), (.sl 2 ((m.set (bsAt (m.map (·.c)) x4.c) (⟨x8.c, (IntKind.i64.wrap (x8.a + x4.a))⟩ : Pay)).map encPay))]) }] (mk 23 [(1, (.one (.ref 5 0))), (2, (.one (.ref 33 0))), (3, (dt (I (((bsAt (m.map (·.c)) x4.c) : Nat) : Int)))), (12, (dt (B (bsMet (m.map (·.c)) x4.c)))), (13, (.one (.own 30))), (14, (dt (I (((bsAt (m.map (·.c)) x4.c) : Nat) : Int)))), (15, (.one (.rref 30 (bsAt (m.map (·.c)) x4.c) 0))), (16, (.one (.rref 30 (bsAt (m.map (·.c)) x4.c) 1))), (17, (dt (I x8.a))), (18, (.one (.ref 33 1))), (19, (dt (I x4.a))), (20, (dt (I (IntKind.i64.wrap (x8.a + x4.a))))), (21, (.one (.rref 30 (bsAt (m.map (·.c)) x4.c) 0))), (22, (.one (.rref 30 (bsAt (m.map (·.c)) x4.c) 1)))] [(33, (.var [(.dat (I x4.c)), (.dat (I x4.a))])), (5, (.var [(.own 30)])), (30, (.row 51 2 ((m.set (bsAt (m.map (·.c)) x4.c) (⟨x8.c, (IntKind.i64.wrap (x8.a + x4.a))⟩ : Pay)).map encPay)))]) ((True ∧ True ∧ True ∧ True ∧ True ∧ (0 ≤ (((bsAt (m.map (·.c)) x4.c) : Nat) : Int) ∧ (((bsAt (m.map (·.c)) x4.c) : Nat) : Int) < (((m.map encPay).length : Nat) : Int)) ∧ True ∧ True ∧ True ∧ ((m.map encPay)[(bsAt (m.map (·.c)) x4.c)]? = some (.agg [(I x8.c), (I x8.a)])) ∧ True ∧ True ∧ True ∧ True ∧ True ∧ True ∧ True ∧ (0 ≤ (((bsAt (m.map (·.c)) x4.c) : Nat) : Int) ∧ (((bsAt (m.map (·.c)) x4.c) : Nat) : Int) < (((m.map encPay).length : Nat) : Int)) ∧ True ∧ True ∧ True) ∧ True ∧ ((m.map encPay)[(bsAt (m.map (·.c)) x4.c)]? = some (.agg [(I x8.c), (I x8.a)]) ∧ (m.map encPay).set (bsAt (m.map (·.c)) x4.c) (.agg [(I x8.c), (I (IntKind.i64.wrap (x8.a + x4.a)))]) = (m.set (bsAt (m.map (·.c)) x4.c) (⟨x8.c, (IntKind.i64.wrap (x8.a + x4.a))⟩ : Pay)).map encPay) ∧ True) (by kernel_rfl) (by kernel_rfl) (by kernel_rfl) ⟨⟨trivial, trivial, trivial, trivial, trivial, ⟨by omega, by rw [List.length_map]; omega⟩, trivial, trivial, trivial, (by rw [List.getElem?_map, hx9]; rfl), trivial, trivial, trivial, trivial, trivial, trivial, trivial, ⟨by omega, by rw [List.length_map]; omega⟩, trivial, trivial, trivial⟩, ⟨trivial, ⟨by rw [List.getElem?_map, hx9]; rfl, by rw [List.map_set]; rfl⟩, trivial⟩⟩ ?_
      refine ⟨[], by kernel_rfl, ?_⟩
      refine TL_turn [] [5, 6, 12, 13, 14, 20] [33] (mk 23 [(5, (.one (.ref 5 0))), (6, (.one (.fn 57 [.inl 5]))), (12, (dt (.sl 2 (ps.map encPay)))), (13, (dt (I ((ps.length : Nat) : Int)))), (14, (dt (I ((k : Nat) : Int)))), (20, (.tup []))] [(5, (.var [(.own 30)])), (30, (.row 51 2 ((m.set (bsAt (m.map (·.c)) x4.c) (⟨x8.c, (IntKind.i64.wrap (x8.a + x4.a))⟩ : Pay)).map encPay)))]) (by kernel_rfl) ?_
      refine TL_nilQ ?_
      refine T_regE [{ d := some (I ((k + 1 : Nat) : Int)) }] (mk 23 [(5, (.one (.ref 5 0))), (6, (.one (.fn 57 [.inl 5]))), (12, (dt (.sl 2 (ps.map encPay)))), (13, (dt (I ((ps.length : Nat) : Int)))), (14, (dt (I ((k + 1 : Nat) : Int)))), (20, (.tup [])), (21, (dt (I ((k + 1 : Nat) : Int))))] [(5, (.var [(.own 30)])), (30, (.row 51 2 ((m.set (bsAt (m.map (·.c)) x4.c) (⟨x8.c, (IntKind.i64.wrap (x8.a + x4.a))⟩ : Pay)).map encPay)))]) (True ∧ (IntKind.i64.wrap (((k : Nat) : Int) + 1) = ((k + 1 : Nat) : Int)) ∧ True ∧ True ∧ True) (by kernel_rfl) ⟨trivial, (by rw [i64_wrap (by omega) (by omega)]; omega), trivial, trivial, trivial⟩ ?_
      refine Exists.intro (k + 1, (m.set (bsAt (m.map (·.c)) x4.c) (⟨x8.c, (IntKind.i64.wrap (x8.a + x4.a))⟩ : Pay))) ⟨⟨by omega, by rw [← iv, drop_cons hx5, cred, give_met (by assumption) (by assumption)], by first | exact im | (rw [List.length_set]; exact im), trivial⟩, by first | omega | (dsimp only; omega), le_turn [] [5, 6, 12, 13, 14] [] (by kernel_rfl)⟩
    · skip
      refine T_skip ?_
      refine ⟨[], by kernel_rfl, ?_⟩
      refine TL_turn [] [5, 6, 12, 13, 14, 20] [33] (mk 23 [(5, (.one (.ref 5 0))), (6, (.one (.fn 57 [.inl 5]))), (12, (dt (.sl 2 (ps.map encPay)))), (13, (dt (I ((ps.length : Nat) : Int)))), (14, (dt (I ((k : Nat) : Int)))), (20, (.tup []))] [(5, (.var [(.own 30)])), (30, (.row 51 2 (m.map encPay)))]) (by kernel_rfl) ?_
      refine TL_nilQ ?_
      refine T_regE [{ d := some (I ((k + 1 : Nat) : Int)) }] (mk 23 [(5, (.one (.ref 5 0))), (6, (.one (.fn 57 [.inl 5]))), (12, (dt (.sl 2 (ps.map encPay)))), (13, (dt (I ((ps.length : Nat) : Int)))), (14, (dt (I ((k + 1 : Nat) : Int)))), (20, (.tup [])), (21, (dt (I ((k + 1 : Nat) : Int))))] [(5, (.var [(.own 30)])), (30, (.row 51 2 (m.map encPay)))]) (True ∧ (IntKind.i64.wrap (((k : Nat) : Int) + 1) = ((k + 1 : Nat) : Int)) ∧ True ∧ True ∧ True) (by kernel_rfl) ⟨trivial, (by rw [i64_wrap (by omega) (by omega)]; omega), trivial, trivial, trivial⟩ ?_
      refine Exists.intro (k + 1, m) ⟨⟨by omega, by rw [← iv, drop_cons hx5, cred, give_not (by assumption)], by first | exact im | (rw [List.length_set]; exact im), trivial⟩, by first | omega | (dsimp only; omega), le_turn [] [5, 6, 12, 13, 14] [] (by kernel_rfl)⟩
  · skip
    have g10 : ¬ (((k : Nat) : Int) < ((ps.length : Nat) : Int)) := of_decide_eq_false (h1)
    refine T_exit ?_
    refine T_reg [] [4] [5] (mk 23 [(4, (.one (.own 30)))] [(30, (.row 51 2 (m.map encPay)))]) (True ∧ True ∧ True ∧ True ∧ True) (by kernel_rfl) ⟨trivial, trivial, trivial, trivial, trivial⟩ ?_
    refine T_ret ?_
    exact ret_here [(.one (.own 30))] (by kernel_rfl) (by show D.sl 2 ((cred bl ps).map encPay) = D.sl 2 (m.map encPay); exact congrArg (fun l => D.sl 2 (l.map encPay)) (by rw [← iv, List.drop_eq_nil_of_le (by omega)]; rfl : (cred bl ps) = m))

end Go.Proofs.Ytpkbecaailhhmaa

/-
  Walks at the data level, printed by gen.py: what each Go function returns, for data that reads as said. Conditions: those of each theorem.
-/
namespace Go.Proofs.Ytpkbecaailhhmaa
open Go.DL
set_option maxRecDepth 100000
set_option linter.unusedVariables false
set_option linter.unusedSimpArgs false
theorem ret_pay (h : House) (hb : h.b.length ≤ 140737488355328) (hh : h.h.length ≤ 140737488355328) (hp : ∀ x ∈ h.h, x.ps.length ≤ 140737488355328) (c a : Int) : Ret Try.prog 22 [(.agg [(.sl 2 (h.b.map encPay)), (.sl 4 (h.h.map encHold))]), (I c), (I a)] (.tup [(.agg [(.sl 2 ((paid h c a).1.b.map encPay)), (.sl 4 ((paid h c a).1.h.map encHold))]), (I (paid h c a).2)]) := by
  refine Ret.of_T Try.func22 (by kernel_rfl) rfl ?_
  refine T_turn [] [0, 1, 2] [] (mk 43 [(0, (.agg [(.dat (.sl 2 (h.b.map encPay))), (.dat (.sl 4 (h.h.map encHold)))])), (1, (dt (I c))), (2, (dt (I a)))] []) (by kernel_rfl) ?_
  refine T_reg [] [1, 2, 3, 6] [] (mk 43 [(1, (dt (I c))), (2, (dt (I a))), (3, (.one (.ref 3 0))), (6, (.one (.ref 6 0)))] [(6, (.var [(.dat nilS), (.dat nilS)])), (3, (.var [(.dat (.sl 2 (h.b.map encPay))), (.dat (.sl 4 (h.h.map encHold)))]))]) (True ∧ True ∧ True ∧ True ∧ True ∧ True ∧ True) (by kernel_rfl) ⟨trivial, trivial, trivial, trivial, trivial, trivial, trivial⟩ ?_
  refine T_seq ?_
  refine T_reg [{}, { d := some (I (check h)) }] [1, 2, 3, 6, 8] [] (mk 43 [(1, (dt (I c))), (2, (dt (I a))), (3, (.one (.ref 3 0))), (6, (.one (.ref 6 0))), (8, (dt (I (check h))))] [(6, (.var [(.dat nilS), (.dat nilS)])), (3, (.var [(.dat (.sl 2 (h.b.map encPay))), (.dat (.sl 4 (h.h.map encHold)))]))]) (True ∧ True ∧ True ∧ (Ret Try.prog 17 [(.agg [(.sl 2 (h.b.map encPay)), (.sl 4 (h.h.map encHold))])] (I (check h))) ∧ True ∧ True ∧ True) (by kernel_rfl) ⟨trivial, trivial, trivial, (ret_check h hb hh hp), trivial, trivial, trivial⟩ ?_
  refine T_reg [] [1, 2, 3, 6, 8, 12] [] (mk 43 [(1, (dt (I c))), (2, (dt (I a))), (3, (.one (.ref 3 0))), (6, (.one (.ref 6 0))), (8, (dt (I (check h)))), (12, (dt (B ((check h) != 0))))] [(6, (.var [(.dat nilS), (.dat nilS)])), (3, (.var [(.dat (.sl 2 (h.b.map encPay))), (.dat (.sl 4 (h.h.map encHold)))]))]) (True ∧ True ∧ True ∧ True ∧ True) (by kernel_rfl) ⟨trivial, trivial, trivial, trivial, trivial⟩ ?_
  refine T_cond ((check h) != 0) (by kernel_rfl) (fun h1 => ?_) (fun h1 => ?_)
  · skip
    have g2 : (check h) ≠ 0 := bne_iff_ne.1 (h1)
    refine T_reg [] [6, 7] [3] (mk 43 [(6, (.one (.ref 6 0))), (7, (dt (I (check h))))] [(6, (.var [(.dat nilS), (.dat nilS)]))]) (True ∧ True ∧ True ∧ True ∧ True ∧ True ∧ True ∧ True ∧ True) (by kernel_rfl) ⟨trivial, trivial, trivial, trivial, trivial, trivial, trivial, trivial, trivial⟩ ?_
    refine T_ret ?_
    exact ret_here [(.agg [(.dat nilS), (.dat nilS)]), (dt (I (check h)))] (by kernel_rfl) ⟨⟨(.inr ⟨rfl, 2, (by show D.sl _ _ = _; exact congrArg (fun l => D.sl 2 (l.map encPay)) (by first | (simp_all [paid, none0]; done) | (simp_all [paid, none0]; split <;> first | omega | rfl | (split <;> first | omega | rfl)) : (paid h c a).1.b = []))⟩), (.inr ⟨rfl, 4, (by show D.sl _ _ = _; exact congrArg (fun l => D.sl 4 (l.map encHold)) (by first | (simp_all [paid, none0]; done) | (simp_all [paid, none0]; split <;> first | omega | rfl | (split <;> first | omega | rfl)) : (paid h c a).1.h = []))⟩), trivial⟩, (.inl (congrArg I (by first | (simp_all [paid, none0]; done) | (simp_all [paid, none0]; split <;> first | omega | rfl | (split <;> first | omega | rfl)) : (check h) = (paid h c a).2))), trivial⟩
  · skip
    have g3 : (check h) = 0 := bne_f (h1)
    refine T_skip ?_
    refine T_seq ?_
    rcases Bool.eq_false_or_eq_true (!(hasB h c)) with h4 | h4
    · skip
      have n5 : (hasB h c) = false := not_t h4
      refine T_reg [{}, {}, { d := some (B (hasB h c)) }, {}, {}, { g := false }, { g := false }, { d := some (B true) }, {}, { g := false }, { g := false }, { d := some (B true) }] [1, 2, 3, 6, 26] [] (mk 43 [(1, (dt (I c))), (2, (dt (I a))), (3, (.one (.ref 3 0))), (6, (.one (.ref 6 0))), (26, (dt (B true)))] [(6, (.var [(.dat nilS), (.dat nilS)])), (3, (.var [(.dat (.sl 2 (h.b.map encPay))), (.dat (.sl 4 (h.h.map encHold)))]))]) (True ∧ True ∧ True ∧ True ∧ True ∧ (Ret Try.prog 40 [(.agg [(.sl 2 (h.b.map encPay)), (.sl 4 (h.h.map encHold))]), (I c)] (B (hasB h c))) ∧ True ∧ True ∧ True ∧ True ∧ (((!(hasB h c)) == false) = false) ∧ (((!(hasB h c)) == false) = false) ∧ True ∧ ((!(hasB h c)) = true) ∧ True ∧ True ∧ ((true == false) = false) ∧ ((true == false) = false) ∧ True ∧ (true = true) ∧ True) (by kernel_rfl) ⟨trivial, trivial, trivial, trivial, trivial, (ret_hasAccount h hb _), trivial, trivial, trivial, trivial, (by rw [show (!(hasB h c)) = true from h4]; rfl), (by rw [show (!(hasB h c)) = true from h4]; rfl), trivial, h4, trivial, trivial, (by rw [show true = true from rfl]; rfl), (by rw [show true = true from rfl]; rfl), trivial, rfl, trivial⟩ ?_
      refine T_cond true (by kernel_rfl) (fun _ => ?_) (fun h => absurd (h.symm.trans rfl) (by decide))
      refine T_reg [] [6, 7] [3] (mk 43 [(6, (.one (.ref 6 0))), (7, (dt (I 1)))] [(6, (.var [(.dat nilS), (.dat nilS)]))]) (True ∧ True ∧ True ∧ True ∧ True ∧ True ∧ True) (by kernel_rfl) ⟨trivial, trivial, trivial, trivial, trivial, trivial, trivial⟩ ?_
      refine T_ret ?_
      exact ret_here [(.agg [(.dat nilS), (.dat nilS)]), (dt (I 1))] (by kernel_rfl) ⟨⟨(.inr ⟨rfl, 2, (by show D.sl _ _ = _; exact congrArg (fun l => D.sl 2 (l.map encPay)) (by first | (simp_all [paid, none0]; done) | (simp_all [paid, none0]; split <;> first | omega | rfl | (split <;> first | omega | rfl)) : (paid h c a).1.b = []))⟩), (.inr ⟨rfl, 4, (by show D.sl _ _ = _; exact congrArg (fun l => D.sl 4 (l.map encHold)) (by first | (simp_all [paid, none0]; done) | (simp_all [paid, none0]; split <;> first | omega | rfl | (split <;> first | omega | rfl)) : (paid h c a).1.h = []))⟩), trivial⟩, (.inl (congrArg I (by first | (simp_all [paid, none0]; done) | (simp_all [paid, none0]; split <;> first | omega | rfl | (split <;> first | omega | rfl)) : 1 = (paid h c a).2))), trivial⟩
    · skip
      have n6 : (hasB h c) = true := not_f h4
      rcases Bool.eq_false_or_eq_true (decide (a < 1)) with h7 | h7
      · skip
        have g8 : a < 1 := of_decide_eq_true (h7)
        refine T_reg [{}, {}, { d := some (B (hasB h c)) }, {}, {}, {}, {}, { d := some (B false) }, {}, { g := false }, { g := false }, { d := some (B true) }] [1, 2, 3, 6, 26] [] (mk 43 [(1, (dt (I c))), (2, (dt (I a))), (3, (.one (.ref 3 0))), (6, (.one (.ref 6 0))), (26, (dt (B true)))] [(6, (.var [(.dat nilS), (.dat nilS)])), (3, (.var [(.dat (.sl 2 (h.b.map encPay))), (.dat (.sl 4 (h.h.map encHold)))]))]) (True ∧ True ∧ True ∧ True ∧ True ∧ (Ret Try.prog 40 [(.agg [(.sl 2 (h.b.map encPay)), (.sl 4 (h.h.map encHold))]), (I c)] (B (hasB h c))) ∧ True ∧ True ∧ True ∧ True ∧ (((!(hasB h c)) == false) = true) ∧ True ∧ (((!(hasB h c)) == false) = true) ∧ True ∧ True ∧ ((!(hasB h c)) = false) ∧ True ∧ True ∧ (((decide (a < 1)) == false) = false) ∧ (((decide (a < 1)) == false) = false) ∧ True ∧ ((decide (a < 1)) = true) ∧ True) (by kernel_rfl) ⟨trivial, trivial, trivial, trivial, trivial, (ret_hasAccount h hb _), trivial, trivial, trivial, trivial, (by rw [show (!(hasB h c)) = false from h4]; rfl), trivial, (by rw [show (!(hasB h c)) = false from h4]; rfl), trivial, trivial, h4, trivial, trivial, (by rw [show (decide (a < 1)) = true from h7]; rfl), (by rw [show (decide (a < 1)) = true from h7]; rfl), trivial, h7, trivial⟩ ?_
        refine T_cond true (by kernel_rfl) (fun _ => ?_) (fun h => absurd (h.symm.trans rfl) (by decide))
        refine T_reg [] [6, 7] [3] (mk 43 [(6, (.one (.ref 6 0))), (7, (dt (I 1)))] [(6, (.var [(.dat nilS), (.dat nilS)]))]) (True ∧ True ∧ True ∧ True ∧ True ∧ True ∧ True) (by kernel_rfl) ⟨trivial, trivial, trivial, trivial, trivial, trivial, trivial⟩ ?_
        refine T_ret ?_
        exact ret_here [(.agg [(.dat nilS), (.dat nilS)]), (dt (I 1))] (by kernel_rfl) ⟨⟨(.inr ⟨rfl, 2, (by show D.sl _ _ = _; exact congrArg (fun l => D.sl 2 (l.map encPay)) (by first | (simp_all [paid, none0]; done) | (simp_all [paid, none0]; split <;> first | omega | rfl | (split <;> first | omega | rfl)) : (paid h c a).1.b = []))⟩), (.inr ⟨rfl, 4, (by show D.sl _ _ = _; exact congrArg (fun l => D.sl 4 (l.map encHold)) (by first | (simp_all [paid, none0]; done) | (simp_all [paid, none0]; split <;> first | omega | rfl | (split <;> first | omega | rfl)) : (paid h c a).1.h = []))⟩), trivial⟩, (.inl (congrArg I (by first | (simp_all [paid, none0]; done) | (simp_all [paid, none0]; split <;> first | omega | rfl | (split <;> first | omega | rfl)) : 1 = (paid h c a).2))), trivial⟩
      · skip
        have g9 : ¬ (a < 1) := of_decide_eq_false (h7)
        refine T_reg [{}, {}, { d := some (B (hasB h c)) }, {}, {}, {}, {}, { d := some (B false) }, {}, {}, {}, { d := some (B false) }] [1, 2, 3, 6, 26] [] (mk 43 [(1, (dt (I c))), (2, (dt (I a))), (3, (.one (.ref 3 0))), (6, (.one (.ref 6 0))), (26, (dt (B (decide (a > 1125899906842624)))))] [(6, (.var [(.dat nilS), (.dat nilS)])), (3, (.var [(.dat (.sl 2 (h.b.map encPay))), (.dat (.sl 4 (h.h.map encHold)))]))]) (True ∧ True ∧ True ∧ True ∧ True ∧ (Ret Try.prog 40 [(.agg [(.sl 2 (h.b.map encPay)), (.sl 4 (h.h.map encHold))]), (I c)] (B (hasB h c))) ∧ True ∧ True ∧ True ∧ True ∧ (((!(hasB h c)) == false) = true) ∧ True ∧ (((!(hasB h c)) == false) = true) ∧ True ∧ True ∧ ((!(hasB h c)) = false) ∧ True ∧ True ∧ (((decide (a < 1)) == false) = true) ∧ True ∧ (((decide (a < 1)) == false) = true) ∧ True ∧ True ∧ ((decide (a < 1)) = false) ∧ True) (by kernel_rfl) ⟨trivial, trivial, trivial, trivial, trivial, (ret_hasAccount h hb _), trivial, trivial, trivial, trivial, (by rw [show (!(hasB h c)) = false from h4]; rfl), trivial, (by rw [show (!(hasB h c)) = false from h4]; rfl), trivial, trivial, h4, trivial, trivial, (by rw [show (decide (a < 1)) = false from h7]; rfl), trivial, (by rw [show (decide (a < 1)) = false from h7]; rfl), trivial, trivial, h7, trivial⟩ ?_
        refine T_cond (decide (a > 1125899906842624)) (by kernel_rfl) (fun h10 => ?_) (fun h10 => ?_)
        · skip
          have g11 : a > 1125899906842624 := of_decide_eq_true (h10)
          refine T_reg [] [6, 7] [3] (mk 43 [(6, (.one (.ref 6 0))), (7, (dt (I 1)))] [(6, (.var [(.dat nilS), (.dat nilS)]))]) (True ∧ True ∧ True ∧ True ∧ True ∧ True ∧ True) (by kernel_rfl) ⟨trivial, trivial, trivial, trivial, trivial, trivial, trivial⟩ ?_
          refine T_ret ?_
          exact ret_here [(.agg [(.dat nilS), (.dat nilS)]), (dt (I 1))] (by kernel_rfl) ⟨⟨(.inr ⟨rfl, 2, (by show D.sl _ _ = _; exact congrArg (fun l => D.sl 2 (l.map encPay)) (by first | (simp_all [paid, none0]; done) | (simp_all [paid, none0]; split <;> first | omega | rfl | (split <;> first | omega | rfl)) : (paid h c a).1.b = []))⟩), (.inr ⟨rfl, 4, (by show D.sl _ _ = _; exact congrArg (fun l => D.sl 4 (l.map encHold)) (by first | (simp_all [paid, none0]; done) | (simp_all [paid, none0]; split <;> first | omega | rfl | (split <;> first | omega | rfl)) : (paid h c a).1.h = []))⟩), trivial⟩, (.inl (congrArg I (by first | (simp_all [paid, none0]; done) | (simp_all [paid, none0]; split <;> first | omega | rfl | (split <;> first | omega | rfl)) : 1 = (paid h c a).2))), trivial⟩
        · skip
          have g12 : ¬ (a > 1125899906842624) := of_decide_eq_false (h10)
          refine T_skip ?_
          refine T_seq ?_
          refine T_reg [{}, { d := some (I (total h)) }] [1, 2, 3, 6, 32] [] (mk 43 [(1, (dt (I c))), (2, (dt (I a))), (3, (.one (.ref 3 0))), (6, (.one (.ref 6 0))), (32, (dt (B (decide ((IntKind.i64.wrap ((total h) + a)) > 1125899906842624)))))] [(6, (.var [(.dat nilS), (.dat nilS)])), (3, (.var [(.dat (.sl 2 (h.b.map encPay))), (.dat (.sl 4 (h.h.map encHold)))]))]) (True ∧ True ∧ True ∧ (Ret Try.prog 19 [(.agg [(.sl 2 (h.b.map encPay)), (.sl 4 (h.h.map encHold))])] (I (total h))) ∧ True ∧ True ∧ True ∧ True ∧ True ∧ True ∧ True) (by kernel_rfl) ⟨trivial, trivial, trivial, (ret_total h hb hh hp), trivial, trivial, trivial, trivial, trivial, trivial, trivial⟩ ?_
          refine T_cond (decide ((IntKind.i64.wrap ((total h) + a)) > 1125899906842624)) (by kernel_rfl) (fun h13 => ?_) (fun h13 => ?_)
          · skip
            have g14 : (IntKind.i64.wrap ((total h) + a)) > 1125899906842624 := of_decide_eq_true (h13)
            refine T_reg [] [6, 7] [3] (mk 43 [(6, (.one (.ref 6 0))), (7, (dt (I 2)))] [(6, (.var [(.dat nilS), (.dat nilS)]))]) (True ∧ True ∧ True ∧ True ∧ True ∧ True ∧ True) (by kernel_rfl) ⟨trivial, trivial, trivial, trivial, trivial, trivial, trivial⟩ ?_
            refine T_ret ?_
            exact ret_here [(.agg [(.dat nilS), (.dat nilS)]), (dt (I 2))] (by kernel_rfl) ⟨⟨(.inr ⟨rfl, 2, (by show D.sl _ _ = _; exact congrArg (fun l => D.sl 2 (l.map encPay)) (by first | (simp_all [paid, none0]; done) | (simp_all [paid, none0]; split <;> first | omega | rfl | (split <;> first | omega | rfl)) : (paid h c a).1.b = []))⟩), (.inr ⟨rfl, 4, (by show D.sl _ _ = _; exact congrArg (fun l => D.sl 4 (l.map encHold)) (by first | (simp_all [paid, none0]; done) | (simp_all [paid, none0]; split <;> first | omega | rfl | (split <;> first | omega | rfl)) : (paid h c a).1.h = []))⟩), trivial⟩, (.inl (congrArg I (by first | (simp_all [paid, none0]; done) | (simp_all [paid, none0]; split <;> first | omega | rfl | (split <;> first | omega | rfl)) : 2 = (paid h c a).2))), trivial⟩
          · skip
            have g15 : ¬ ((IntKind.i64.wrap ((total h) + a)) > 1125899906842624) := of_decide_eq_false (h13)
            refine T_skip ?_
            refine T_seq (T_parts ?_)
            refine TL_part 6 [] (mk 43 [(1, (dt (I c))), (2, (dt (I a))), (3, (.one (.ref 3 0))), (6, (.one (.ref 6 0))), (32, (dt (B (decide ((IntKind.i64.wrap ((total h) + a)) > 1125899906842624))))), (34, (.one (.ref 3 0))), (35, (dt (.sl 2 (h.b.map encPay)))), (36, (dt (I c))), (37, (dt (I a))), (38, (.agg [(.dat (I c)), (.dat (I a))])), (39, (.one (.own 39)))] [(39, (.row 51 2 ([(⟨c, a⟩ : Pay)].map encPay))), (6, (.var [(.dat nilS), (.dat nilS)])), (3, (.var [(.dat (.sl 2 (h.b.map encPay))), (.dat (.sl 4 (h.h.map encHold)))]))]) (True ∧ True ∧ True ∧ True ∧ True ∧ True ∧ True ∧ True ∧ True ∧ True ∧ True ∧ (dfill (fun i => some (i * 2, 2)) (List.replicate (1 * 2) .junk) [(0, [(.dat (I c)), (.dat (I a))])] = some ((flat ([(⟨c, a⟩ : Pay)].map encPay)).map .dat)) ∧ True) (by kernel_rfl) ⟨trivial, trivial, trivial, trivial, trivial, trivial, trivial, trivial, trivial, trivial, trivial, rfl, trivial⟩ rfl ?_
            refine TL_turn [39] [1, 2, 3, 6, 32, 34, 35, 36, 37, 38, 39] [] (mk 43 [(1, (dt (I c))), (2, (dt (I a))), (3, (.one (.ref 3 0))), (6, (.one (.ref 6 0))), (32, (dt (B (decide ((IntKind.i64.wrap ((total h) + a)) > 1125899906842624))))), (34, (.one (.ref 3 0))), (35, (dt (.sl 2 (h.b.map encPay)))), (36, (dt (I c))), (37, (dt (I a))), (38, (.agg [(.dat (I c)), (.dat (I a))])), (39, (dt (.sl 2 ([(⟨c, a⟩ : Pay)].map encPay))))] [(6, (.var [(.dat nilS), (.dat nilS)])), (3, (.var [(.dat (.sl 2 (h.b.map encPay))), (.dat (.sl 4 (h.h.map encHold)))]))]) (by kernel_rfl) ?_
            refine TL_part 3 [{ d := some (.sl 2 ((cred h.b [(⟨c, a⟩ : Pay)]).map encPay)) }] (mk 43 [(1, (dt (I c))), (2, (dt (I a))), (3, (.one (.ref 3 0))), (6, (.one (.ref 6 0))), (32, (dt (B (decide ((IntKind.i64.wrap ((total h) + a)) > 1125899906842624))))), (34, (.one (.ref 3 0))), (35, (dt (.sl 2 (h.b.map encPay)))), (36, (dt (I c))), (37, (dt (I a))), (38, (.agg [(.dat (I c)), (.dat (I a))])), (39, (dt (.sl 2 ([(⟨c, a⟩ : Pay)].map encPay)))), (40, (dt (.sl 2 ((cred h.b [(⟨c, a⟩ : Pay)]).map encPay)))), (41, (.one (.ref 3 0)))] [(6, (.var [(.dat nilS), (.dat nilS)])), (3, (.var [(.dat (.sl 2 ((cred h.b [(⟨c, a⟩ : Pay)]).map encPay))), (.dat (.sl 4 (h.h.map encHold)))]))]) (True ∧ (Ret Try.prog 41 [(.sl 2 (h.b.map encPay)), (.sl 2 ([(⟨c, a⟩ : Pay)].map encPay))] (.sl 2 ((cred h.b [(⟨c, a⟩ : Pay)]).map encPay))) ∧ True ∧ True ∧ True ∧ True ∧ True) (by kernel_rfl) ⟨trivial, (ret_credited _ _ (by have := len_of_check (by assumption); omega) (by simp) (ne_of_check (by assumption))), trivial, trivial, trivial, trivial, trivial⟩ rfl ?_
            refine TL_nilQ ?_
            refine T_turn [] [3, 6] [] (mk 43 [(3, (.one (.ref 3 0))), (6, (.one (.ref 6 0)))] [(6, (.var [(.dat nilS), (.dat nilS)])), (3, (.var [(.dat (.sl 2 ((cred h.b [(⟨c, a⟩ : Pay)]).map encPay))), (.dat (.sl 4 (h.h.map encHold)))]))]) (by kernel_rfl) ?_
            refine T_reg [] [6, 7] [3] (mk 43 [(6, (.one (.ref 6 0))), (7, (dt (I 0)))] [(6, (.var [(.dat (.sl 2 ((cred h.b [(⟨c, a⟩ : Pay)]).map encPay))), (.dat (.sl 4 (h.h.map encHold)))]))]) (True ∧ True ∧ True ∧ True ∧ True ∧ True ∧ True) (by kernel_rfl) ⟨trivial, trivial, trivial, trivial, trivial, trivial, trivial⟩ ?_
            refine T_ret ?_
            exact ret_here [(.agg [(.dat (.sl 2 ((cred h.b [(⟨c, a⟩ : Pay)]).map encPay))), (.dat (.sl 4 (h.h.map encHold)))]), (dt (I 0))] (by kernel_rfl) ⟨⟨(.inl (congrArg (fun l => D.sl 2 (l.map encPay)) (by first | (simp_all [paid, none0]; done) | (simp_all [paid, none0]; split <;> first | omega | rfl | (split <;> first | omega | rfl)) : (cred h.b [(⟨c, a⟩ : Pay)]) = (paid h c a).1.b))), (.inl (congrArg (fun l => D.sl 4 (l.map encHold)) (by first | (simp_all [paid, none0]; done) | (simp_all [paid, none0]; split <;> first | omega | rfl | (split <;> first | omega | rfl)) : h.h = (paid h c a).1.h))), trivial⟩, (.inl (congrArg I (by first | (simp_all [paid, none0]; done) | (simp_all [paid, none0]; split <;> first | omega | rfl | (split <;> first | omega | rfl)) : 0 = (paid h c a).2))), trivial⟩

theorem ret_settle (h : House) (hb : h.b.length ≤ 140737488355328) (hh : h.h.length ≤ 140737488355328) (hp : ∀ x ∈ h.h, x.ps.length ≤ 140737488355328) (t : Int) (pd : Bool) : Ret Try.prog 26 [(.agg [(.sl 2 (h.b.map encPay)), (.sl 4 (h.h.map encHold))]), (I t), (B (pd))] (.tup [(.agg [(.sl 2 ((settled h t pd).1.b.map encPay)), (.sl 4 ((settled h t pd).1.h.map encHold))]), (I (settled h t pd).2)]) := by
  refine Ret.of_T Try.func26 (by kernel_rfl) rfl ?_
  refine T_turn [] [0, 1, 2] [] (mk 76 [(0, (.agg [(.dat (.sl 2 (h.b.map encPay))), (.dat (.sl 4 (h.h.map encHold)))])), (1, (dt (I t))), (2, (dt (B (pd))))] []) (by kernel_rfl) ?_
  refine T_reg [] [1, 2, 3, 6] [] (mk 76 [(1, (dt (I t))), (2, (dt (B (pd)))), (3, (.one (.ref 3 0))), (6, (.one (.ref 6 0)))] [(6, (.var [(.dat nilS), (.dat nilS)])), (3, (.var [(.dat (.sl 2 (h.b.map encPay))), (.dat (.sl 4 (h.h.map encHold)))]))]) (True ∧ True ∧ True ∧ True ∧ True ∧ True ∧ True) (by kernel_rfl) ⟨trivial, trivial, trivial, trivial, trivial, trivial, trivial⟩ ?_
  refine T_seq ?_
  refine T_reg [{}, { d := some (I (check h)) }] [1, 2, 3, 6, 8] [] (mk 76 [(1, (dt (I t))), (2, (dt (B (pd)))), (3, (.one (.ref 3 0))), (6, (.one (.ref 6 0))), (8, (dt (I (check h))))] [(6, (.var [(.dat nilS), (.dat nilS)])), (3, (.var [(.dat (.sl 2 (h.b.map encPay))), (.dat (.sl 4 (h.h.map encHold)))]))]) (True ∧ True ∧ True ∧ (Ret Try.prog 17 [(.agg [(.sl 2 (h.b.map encPay)), (.sl 4 (h.h.map encHold))])] (I (check h))) ∧ True ∧ True ∧ True) (by kernel_rfl) ⟨trivial, trivial, trivial, (ret_check h hb hh hp), trivial, trivial, trivial⟩ ?_
  refine T_reg [] [1, 2, 3, 6, 8, 15] [] (mk 76 [(1, (dt (I t))), (2, (dt (B (pd)))), (3, (.one (.ref 3 0))), (6, (.one (.ref 6 0))), (8, (dt (I (check h)))), (15, (dt (B ((check h) != 0))))] [(6, (.var [(.dat nilS), (.dat nilS)])), (3, (.var [(.dat (.sl 2 (h.b.map encPay))), (.dat (.sl 4 (h.h.map encHold)))]))]) (True ∧ True ∧ True ∧ True ∧ True) (by kernel_rfl) ⟨trivial, trivial, trivial, trivial, trivial⟩ ?_
  refine T_cond ((check h) != 0) (by kernel_rfl) (fun h1 => ?_) (fun h1 => ?_)
  · skip
    have g2 : (check h) ≠ 0 := bne_iff_ne.1 (h1)
    refine T_reg [] [6, 7] [3] (mk 76 [(6, (.one (.ref 6 0))), (7, (dt (I (check h))))] [(6, (.var [(.dat nilS), (.dat nilS)]))]) (True ∧ True ∧ True ∧ True ∧ True ∧ True ∧ True ∧ True ∧ True) (by kernel_rfl) ⟨trivial, trivial, trivial, trivial, trivial, trivial, trivial, trivial, trivial⟩ ?_
    refine T_ret ?_
    exact ret_here [(.agg [(.dat nilS), (.dat nilS)]), (dt (I (check h)))] (by kernel_rfl) ⟨⟨(.inr ⟨rfl, 2, (by show D.sl _ _ = _; exact congrArg (fun l => D.sl 2 (l.map encPay)) (by simp_all [settled, none0] : (settled h t pd).1.b = []))⟩), (.inr ⟨rfl, 4, (by show D.sl _ _ = _; exact congrArg (fun l => D.sl 4 (l.map encHold)) (by simp_all [settled, none0] : (settled h t pd).1.h = []))⟩), trivial⟩, (.inl (congrArg I (by simp_all [settled, none0] : (check h) = (settled h t pd).2))), trivial⟩
  · skip
    have g3 : (check h) = 0 := bne_f (h1)
    refine T_skip ?_
    refine T_reg [{}, {}, {}, { d := some (.tup [(I (((bsAt (h.h.map (·.t)) t) : Nat) : Int)), (B (bsMet (h.h.map (·.t)) t))]) }] [2, 3, 6, 9, 10] [] (mk 76 [(2, (dt (B (pd)))), (3, (.one (.ref 3 0))), (6, (.one (.ref 6 0))), (9, (dt (I (((bsAt (h.h.map (·.t)) t) : Nat) : Int)))), (10, (dt (B (bsMet (h.h.map (·.t)) t))))] [(6, (.var [(.dat nilS), (.dat nilS)])), (3, (.var [(.dat (.sl 2 (h.b.map encPay))), (.dat (.sl 4 (h.h.map encHold)))]))]) (True ∧ True ∧ True ∧ True ∧ True ∧ True ∧ True ∧ (Ret Try.prog 43 [(.sl 4 (h.h.map encHold)), (I t), (.fn 44 [])] (.tup [(I (((bsAt (h.h.map (·.t)) t) : Nat) : Int)), (B (bsMet (h.h.map (·.t)) t))])) ∧ True ∧ True ∧ True ∧ True ∧ True ∧ True ∧ True ∧ True ∧ True ∧ True ∧ True) (by kernel_rfl) ⟨trivial, trivial, trivial, trivial, trivial, trivial, trivial, (ret_findTransfer _ _ (by omega)), trivial, trivial, trivial, trivial, trivial, trivial, trivial, trivial, trivial, trivial, trivial⟩ ?_
    refine T_seq ?_
    rcases Bool.eq_false_or_eq_true (!(bsMet (h.h.map (·.t)) t)) with h4 | h4
    · skip
      have n5 : (bsMet (h.h.map (·.t)) t) = false := not_t h4
      refine T_reg [{}, {}, {}, { g := false }, { g := false }, { g := false }, { g := false }, { g := false }, { g := false }, { g := false }, { d := some (B true) }] [2, 3, 6, 9, 35] [] (mk 76 [(2, (dt (B (pd)))), (3, (.one (.ref 3 0))), (6, (.one (.ref 6 0))), (9, (dt (I (((bsAt (h.h.map (·.t)) t) : Nat) : Int)))), (35, (dt (B true)))] [(6, (.var [(.dat nilS), (.dat nilS)])), (3, (.var [(.dat (.sl 2 (h.b.map encPay))), (.dat (.sl 4 (h.h.map encHold)))]))]) (True ∧ True ∧ True ∧ True ∧ True ∧ True ∧ (((!(bsMet (h.h.map (·.t)) t)) == false) = false) ∧ (((!(bsMet (h.h.map (·.t)) t)) == false) = false) ∧ (((!(bsMet (h.h.map (·.t)) t)) == false) = false) ∧ (((!(bsMet (h.h.map (·.t)) t)) == false) = false) ∧ (((!(bsMet (h.h.map (·.t)) t)) == false) = false) ∧ (((!(bsMet (h.h.map (·.t)) t)) == false) = false) ∧ (((!(bsMet (h.h.map (·.t)) t)) == false) = false) ∧ True ∧ ((!(bsMet (h.h.map (·.t)) t)) = true) ∧ True) (by kernel_rfl) ⟨trivial, trivial, trivial, trivial, trivial, trivial, (by rw [show (!(bsMet (h.h.map (·.t)) t)) = true from h4]; rfl), (by rw [show (!(bsMet (h.h.map (·.t)) t)) = true from h4]; rfl), (by rw [show (!(bsMet (h.h.map (·.t)) t)) = true from h4]; rfl), (by rw [show (!(bsMet (h.h.map (·.t)) t)) = true from h4]; rfl), (by rw [show (!(bsMet (h.h.map (·.t)) t)) = true from h4]; rfl), (by rw [show (!(bsMet (h.h.map (·.t)) t)) = true from h4]; rfl), (by rw [show (!(bsMet (h.h.map (·.t)) t)) = true from h4]; rfl), trivial, h4, trivial⟩ ?_
      refine T_cond true (by kernel_rfl) (fun _ => ?_) (fun h => absurd (h.symm.trans rfl) (by decide))
      refine T_reg [] [6, 7] [3] (mk 76 [(6, (.one (.ref 6 0))), (7, (dt (I 391)))] [(6, (.var [(.dat nilS), (.dat nilS)]))]) (True ∧ True ∧ True ∧ True ∧ True ∧ True ∧ True) (by kernel_rfl) ⟨trivial, trivial, trivial, trivial, trivial, trivial, trivial⟩ ?_
      refine T_ret ?_
      exact ret_here [(.agg [(.dat nilS), (.dat nilS)]), (dt (I 391))] (by kernel_rfl) ⟨⟨(.inr ⟨rfl, 2, (by show D.sl _ _ = _; exact congrArg (fun l => D.sl 2 (l.map encPay)) (by simp_all [settled, none0] : (settled h t pd).1.b = []))⟩), (.inr ⟨rfl, 4, (by show D.sl _ _ = _; exact congrArg (fun l => D.sl 4 (l.map encHold)) (by simp_all [settled, none0] : (settled h t pd).1.h = []))⟩), trivial⟩, (.inl (congrArg I (by simp_all [settled, none0] : 391 = (settled h t pd).2))), trivial⟩
    · skip
      have n6 : (bsMet (h.h.map (·.t)) t) = true := not_f h4
      have lt7 : (bsAt (h.h.map (·.t)) t) < (h.h).length := by first | exact met_lt (by assumption) | omega
      obtain ⟨x8, hx9⟩ : ∃ x, (h.h)[(bsAt (h.h.map (·.t)) t)]? = some x := ⟨_, List.getElem?_eq_getElem lt7⟩
      refine T_reg [{}, {}, {}, {}, {}, {}, { d := some (.agg [(I x8.t), (I x8.p), (.sl 2 (x8.ps.map encPay)), (I x8.s)]) }, {}, {}, {}, { d := some (B false) }] [2, 3, 6, 9, 35] [] (mk 76 [(2, (dt (B (pd)))), (3, (.one (.ref 3 0))), (6, (.one (.ref 6 0))), (9, (dt (I (((bsAt (h.h.map (·.t)) t) : Nat) : Int)))), (35, (dt (B (x8.s != 1))))] [(6, (.var [(.dat nilS), (.dat nilS)])), (3, (.var [(.dat (.sl 2 (h.b.map encPay))), (.dat (.sl 4 (h.h.map encHold)))]))]) (True ∧ True ∧ True ∧ True ∧ True ∧ True ∧ (((!(bsMet (h.h.map (·.t)) t)) == false) = true) ∧ True ∧ (((!(bsMet (h.h.map (·.t)) t)) == false) = true) ∧ True ∧ (((!(bsMet (h.h.map (·.t)) t)) == false) = true) ∧ True ∧ (((!(bsMet (h.h.map (·.t)) t)) == false) = true) ∧ (0 ≤ (((bsAt (h.h.map (·.t)) t) : Nat) : Int) ∧ (h.h.map encHold)[(bsAt (h.h.map (·.t)) t)]? = some (.agg [(I x8.t), (I x8.p), (.sl 2 (x8.ps.map encPay)), (I x8.s)])) ∧ (((!(bsMet (h.h.map (·.t)) t)) == false) = true) ∧ True ∧ (((!(bsMet (h.h.map (·.t)) t)) == false) = true) ∧ True ∧ (((!(bsMet (h.h.map (·.t)) t)) == false) = true) ∧ True ∧ True ∧ ((!(bsMet (h.h.map (·.t)) t)) = false) ∧ True) (by kernel_rfl) ⟨trivial, trivial, trivial, trivial, trivial, trivial, (by rw [show (!(bsMet (h.h.map (·.t)) t)) = false from h4]; rfl), trivial, (by rw [show (!(bsMet (h.h.map (·.t)) t)) = false from h4]; rfl), trivial, (by rw [show (!(bsMet (h.h.map (·.t)) t)) = false from h4]; rfl), trivial, (by rw [show (!(bsMet (h.h.map (·.t)) t)) = false from h4]; rfl), ⟨by omega, by rw [List.getElem?_map, hx9]; rfl⟩, (by rw [show (!(bsMet (h.h.map (·.t)) t)) = false from h4]; rfl), trivial, (by rw [show (!(bsMet (h.h.map (·.t)) t)) = false from h4]; rfl), trivial, (by rw [show (!(bsMet (h.h.map (·.t)) t)) = false from h4]; rfl), trivial, trivial, h4, trivial⟩ ?_
      refine T_cond (x8.s != 1) (by kernel_rfl) (fun h10 => ?_) (fun h10 => ?_)
      · skip
        have g11 : x8.s ≠ 1 := bne_iff_ne.1 (h10)
        refine T_reg [] [6, 7] [3] (mk 76 [(6, (.one (.ref 6 0))), (7, (dt (I 391)))] [(6, (.var [(.dat nilS), (.dat nilS)]))]) (True ∧ True ∧ True ∧ True ∧ True ∧ True ∧ True) (by kernel_rfl) ⟨trivial, trivial, trivial, trivial, trivial, trivial, trivial⟩ ?_
        refine T_ret ?_
        exact ret_here [(.agg [(.dat nilS), (.dat nilS)]), (dt (I 391))] (by kernel_rfl) ⟨⟨(.inr ⟨rfl, 2, (by show D.sl _ _ = _; exact congrArg (fun l => D.sl 2 (l.map encPay)) (by simp_all [settled, none0] : (settled h t pd).1.b = []))⟩), (.inr ⟨rfl, 4, (by show D.sl _ _ = _; exact congrArg (fun l => D.sl 4 (l.map encHold)) (by simp_all [settled, none0] : (settled h t pd).1.h = []))⟩), trivial⟩, (.inl (congrArg I (by simp_all [settled, none0] : 391 = (settled h t pd).2))), trivial⟩
      · skip
        have g12 : x8.s = 1 := bne_f (h10)
        refine T_skip ?_
        refine T_seq (T_parts ?_)
        refine TL_part 2 [] (mk 76 [(2, (dt (B (pd)))), (3, (.one (.ref 3 0))), (6, (.one (.ref 6 0))), (9, (dt (I (((bsAt (h.h.map (·.t)) t) : Nat) : Int)))), (35, (dt (B (x8.s != 1)))), (37, (.one (.ref 3 1))), (38, (dt (.sl 4 (h.h.map encHold))))] [(6, (.var [(.dat nilS), (.dat nilS)])), (3, (.var [(.dat (.sl 2 (h.b.map encPay))), (.dat (.sl 4 (h.h.map encHold)))]))]) (True ∧ True ∧ True ∧ True ∧ True) (by kernel_rfl) ⟨trivial, trivial, trivial, trivial, trivial⟩ rfl ?_
        refine TL_inline 76 47 [] Try.f47 _ rfl rfl (by kernel_rfl) Try.func47 rfl rfl (by decide) ?_
        refine T_turn [] [0] [] (mk 8 [(0, (dt (.sl 4 (h.h.map encHold))))] [(6, (.var [(.dat nilS), (.dat nilS)])), (3, (.var [(.dat (.sl 2 (h.b.map encPay))), (.dat (.sl 4 (h.h.map encHold)))]))]) (by kernel_rfl) ?_
        refine T_reg [] [0] [] (mk 8 [(0, (dt (.sl 4 (h.h.map encHold))))] [(6, (.var [(.dat nilS), (.dat nilS)])), (3, (.var [(.dat (.sl 2 (h.b.map encPay))), (.dat (.sl 4 (h.h.map encHold)))]))]) (True ∧ True ∧ True) (by kernel_rfl) ⟨trivial, trivial, trivial⟩ ?_
        refine T_seq ?_
        refine T_reg [] [0, 4] [] (mk 8 [(0, (dt (.sl 4 (h.h.map encHold)))), (4, (dt (B false)))] [(6, (.var [(.dat nilS), (.dat nilS)])), (3, (.var [(.dat (.sl 2 (h.b.map encPay))), (.dat (.sl 4 (h.h.map encHold)))]))]) (True ∧ True ∧ True ∧ (h.h.map encHold ≠ []) ∧ True) (by kernel_rfl) ⟨trivial, trivial, trivial, (by simpa using (ne_of_met (by assumption))), trivial⟩ ?_
        refine T_cond false (by kernel_rfl) (fun h => absurd (h.symm.trans rfl) (by decide)) (fun _ => ?_)
        refine T_skip ?_
        refine T_reg [{}, {}, { d := some (.sl 4 (h.h.map encHold)) }] [2] [] (mk 8 [(2, (.one (.own 83)))] [(83, (.row 54 4 (h.h.map encHold))), (6, (.var [(.dat nilS), (.dat nilS)])), (3, (.var [(.dat (.sl 2 (h.b.map encPay))), (.dat (.sl 4 (h.h.map encHold)))]))]) (True ∧ (dfill (fun i => some (i * 4, 4)) (List.replicate (0 * 4) .junk) [] = some ((flat (([] : List Hold).map encHold)).map .dat)) ∧ True ∧ True ∧ True ∧ (((([] : List Hold).map encHold).length + (h.h.map encHold).length) * 48 ≤ 140737488355328 ∧ cellsOne (h.h.map encHold) ∧ (([] : List Hold).map encHold) ++ h.h.map encHold = h.h.map encHold) ∧ True ∧ True ∧ True) (by kernel_rfl) ⟨trivial, rfl, trivial, trivial, trivial, ⟨by simp only [List.length_map, List.length_nil, List.length_cons]; (have := len_of_check (by assumption); omega), encHold_one _, by simp⟩, trivial, trivial, trivial⟩ ?_
        refine T_ret ?_
        refine ⟨[(.one (.own 83))], by kernel_rfl, ?_⟩
        refine TL_turn [] [2, 3, 6, 9, 39, 40] [] (mk 76 [(2, (dt (B (pd)))), (3, (.one (.ref 3 0))), (6, (.one (.ref 6 0))), (9, (dt (I (((bsAt (h.h.map (·.t)) t) : Nat) : Int)))), (39, (.one (.own 83)))] [(83, (.row 54 4 (h.h.map encHold))), (6, (.var [(.dat nilS), (.dat nilS)])), (3, (.var [(.dat (.sl 2 (h.b.map encPay))), (.dat (.sl 4 (h.h.map encHold)))]))]) (by kernel_rfl) ?_
        refine TL_part 2 [] (mk 76 [(2, (dt (B (pd)))), (3, (.one (.ref 3 0))), (6, (.one (.ref 6 0))), (9, (dt (I (((bsAt (h.h.map (·.t)) t) : Nat) : Int)))), (39, (.one (.own 83))), (40, (.one (.ref 3 1)))] [(83, (.row 54 4 (h.h.map encHold))), (6, (.var [(.dat nilS), (.dat nilS)])), (3, (.var [(.dat (.sl 2 (h.b.map encPay))), (.own 83)]))]) (True ∧ True ∧ True ∧ True ∧ True) (by kernel_rfl) ⟨trivial, trivial, trivial, trivial, trivial⟩ rfl ?_
        refine TL_nilQ ?_
        refine T_turn [] [2, 3, 6, 9] [] (mk 76 [(2, (dt (B (pd)))), (3, (.one (.ref 3 0))), (6, (.one (.ref 6 0))), (9, (dt (I (((bsAt (h.h.map (·.t)) t) : Nat) : Int))))] [(83, (.row 54 4 (h.h.map encHold))), (6, (.var [(.dat nilS), (.dat nilS)])), (3, (.var [(.dat (.sl 2 (h.b.map encPay))), (.own 83)]))]) (by kernel_rfl) ?_
        refine T_reg [] [2, 3, 6, 11] [] (mk 76 [(2, (dt (B (pd)))), (3, (.one (.ref 3 0))), (6, (.one (.ref 6 0))), (11, (.one (.rref 83 (bsAt (h.h.map (·.t)) t) 0)))] [(83, (.row 54 4 (h.h.map encHold))), (6, (.var [(.dat nilS), (.dat nilS)])), (3, (.var [(.dat (.sl 2 (h.b.map encPay))), (.own 83)]))]) (True ∧ True ∧ True ∧ True ∧ True ∧ True ∧ True ∧ (0 ≤ (((bsAt (h.h.map (·.t)) t) : Nat) : Int) ∧ (((bsAt (h.h.map (·.t)) t) : Nat) : Int) < (((h.h.map encHold).length : Nat) : Int)) ∧ True ∧ True ∧ True) (by kernel_rfl) ⟨trivial, trivial, trivial, trivial, trivial, trivial, trivial, ⟨by omega, by rw [List.length_map]; omega⟩, trivial, trivial, trivial⟩ ?_
        refine T_seq ?_
        refine T_reg [] [3, 6, 11, 45] [] (mk 76 [(3, (.one (.ref 3 0))), (6, (.one (.ref 6 0))), (11, (.one (.rref 83 (bsAt (h.h.map (·.t)) t) 0))), (45, (dt (B (pd))))] [(83, (.row 54 4 (h.h.map encHold))), (6, (.var [(.dat nilS), (.dat nilS)])), (3, (.var [(.dat (.sl 2 (h.b.map encPay))), (.own 83)]))]) (True ∧ True ∧ True) (by kernel_rfl) ⟨trivial, trivial, trivial⟩ ?_
        refine T_cond (pd) (by kernel_rfl) (fun h13 => ?_) (fun h13 => ?_)
        · skip
          refine T_reg [{}, {}, {}, { d := some (.tup [(.agg [(I x8.t), (I x8.p), (.sl 2 (x8.ps.map encPay)), (I x8.s)]), (.sl 4 ((h.h.set (bsAt (h.h.map (·.t)) t) (⟨x8.t, x8.p, x8.ps, 2⟩ : Hold)).map encHold))]) }] [3, 6, 11] [] (mk 76 [(3, (.one (.ref 3 0))), (6, (.one (.ref 6 0))), (11, (.one (.rref 83 (bsAt (h.h.map (·.t)) t) 0)))] [(83, (.row 54 4 ((h.h.set (bsAt (h.h.map (·.t)) t) (⟨x8.t, x8.p, x8.ps, 2⟩ : Hold)).map encHold))), (6, (.var [(.dat nilS), (.dat nilS)])), (3, (.var [(.dat (.sl 2 (h.b.map encPay))), (.own 83)]))]) (True ∧ True ∧ True ∧ True ∧ True ∧ True ∧ True ∧ ((h.h.map encHold)[(bsAt (h.h.map (·.t)) t)]? = some (.agg [(I x8.t), (I x8.p), (.sl 2 (x8.ps.map encPay)), (I x8.s)]) ∧ (h.h.map encHold).set (bsAt (h.h.map (·.t)) t) (.agg [(I x8.t), (I x8.p), (.sl 2 (x8.ps.map encPay)), (I 2)]) = (h.h.set (bsAt (h.h.map (·.t)) t) (⟨x8.t, x8.p, x8.ps, 2⟩ : Hold)).map encHold) ∧ True) (by kernel_rfl) ⟨trivial, trivial, trivial, trivial, trivial, trivial, trivial, ⟨by rw [List.getElem?_map, hx9]; rfl, by rw [List.map_set]; rfl⟩, trivial⟩ ?_
          have hs14 : ((h.h.set (bsAt (h.h.map (·.t)) t) (⟨x8.t, x8.p, x8.ps, 2⟩ : Hold)))[(bsAt (h.h.map (·.t)) t)]? = some (⟨x8.t, x8.p, x8.ps, 2⟩ : Hold) := by rw [List.getElem?_set_self (by first | exact met_lt (by assumption) | omega)]
          refine T_regDE 8 [{}, {}, {}, {}, {}, { d := some (.agg [(I x8.t), (I x8.p), (.sl 2 (x8.ps.map encPay)), (I 2)]) }, { d := some (.sl 2 ((cred h.b x8.ps).map encPay)) }] (mk 76 [(3, (.one (.ref 3 0))), (6, (.one (.ref 6 0))), (11, (.one (.rref 83 (bsAt (h.h.map (·.t)) t) 0))), (49, (.one (.ref 3 0))), (50, (dt (.sl 2 (h.b.map encPay)))), (51, (.one (.rref 83 (bsAt (h.h.map (·.t)) t) 0))), (52, (.one (.rref 83 (bsAt (h.h.map (·.t)) t) 0))), (53, (.one (.rref 83 (bsAt (h.h.map (·.t)) t) 2))), (54, (dt (.sl 2 (x8.ps.map encPay)))), (55, (dt (.sl 2 ((cred h.b x8.ps).map encPay)))), (56, (.one (.ref 3 0)))] [(83, (.row 54 4 ((h.h.set (bsAt (h.h.map (·.t)) t) (⟨x8.t, x8.p, x8.ps, 2⟩ : Hold)).map encHold))), (6, (.var [(.dat nilS), (.dat nilS)])), (3, (.var [(.dat (.sl 2 ((cred h.b x8.ps).map encPay))), (.own 83)]))]) ((True ∧ True ∧ True ∧ True ∧ True ∧ True ∧ True ∧ True ∧ True ∧ True ∧ True ∧ (((h.h.set (bsAt (h.h.map (·.t)) t) (⟨x8.t, x8.p, x8.ps, 2⟩ : Hold)).map encHold)[(bsAt (h.h.map (·.t)) t)]? = some (.agg [(I x8.t), (I x8.p), (.sl 2 (x8.ps.map encPay)), (I 2)])) ∧ True ∧ (Ret Try.prog 41 [(.sl 2 (h.b.map encPay)), (.sl 2 (x8.ps.map encPay))] (.sl 2 ((cred h.b x8.ps).map encPay))) ∧ True ∧ True ∧ True) ∧ True ∧ True ∧ True) (by kernel_rfl) (by kernel_rfl) (by kernel_rfl) ⟨⟨trivial, trivial, trivial, trivial, trivial, trivial, trivial, trivial, trivial, trivial, trivial, (by rw [List.getElem?_map, hs14]; rfl), trivial, (ret_credited _ _ (by have := len_of_check (by assumption); omega) (by exact hp _ (List.mem_of_getElem? (by assumption))) (ne_of_check (by assumption))), trivial, trivial, trivial⟩, ⟨trivial, trivial, trivial⟩⟩ ?_
          refine T_reg [] [6, 7] [3] (mk 76 [(6, (.one (.ref 6 0))), (7, (dt (I 0)))] [(83, (.row 54 4 ((h.h.set (bsAt (h.h.map (·.t)) t) (⟨x8.t, x8.p, x8.ps, 2⟩ : Hold)).map encHold))), (6, (.var [(.dat (.sl 2 ((cred h.b x8.ps).map encPay))), (.own 83)]))]) (True ∧ True ∧ True ∧ True ∧ True ∧ True ∧ True) (by kernel_rfl) ⟨trivial, trivial, trivial, trivial, trivial, trivial, trivial⟩ ?_
          refine T_ret ?_
          exact ret_here [(.agg [(.dat (.sl 2 ((cred h.b x8.ps).map encPay))), (.own 83)]), (dt (I 0))] (by kernel_rfl) ⟨⟨(.inl (congrArg (fun l => D.sl 2 (l.map encPay)) (by simp_all [settled, none0] : (cred h.b x8.ps) = (settled h t pd).1.b))), (by show D.sl 4 ((settled h t pd).1.h.map encHold) = D.sl 4 ((h.h.set (bsAt (h.h.map (·.t)) t) (⟨x8.t, x8.p, x8.ps, 2⟩ : Hold)).map encHold); exact congrArg (fun l => D.sl 4 (l.map encHold)) (by simp_all [settled, none0] : (settled h t pd).1.h = (h.h.set (bsAt (h.h.map (·.t)) t) (⟨x8.t, x8.p, x8.ps, 2⟩ : Hold)))), trivial⟩, (.inl (congrArg I (by simp_all [settled, none0] : 0 = (settled h t pd).2))), trivial⟩
        · skip
          refine T_reg [{}, {}, {}, { d := some (.tup [(.agg [(I x8.t), (I x8.p), (.sl 2 (x8.ps.map encPay)), (I x8.s)]), (.sl 4 ((h.h.set (bsAt (h.h.map (·.t)) t) (⟨x8.t, x8.p, x8.ps, 3⟩ : Hold)).map encHold))]) }] [3, 6, 11] [] (mk 76 [(3, (.one (.ref 3 0))), (6, (.one (.ref 6 0))), (11, (.one (.rref 83 (bsAt (h.h.map (·.t)) t) 0)))] [(83, (.row 54 4 ((h.h.set (bsAt (h.h.map (·.t)) t) (⟨x8.t, x8.p, x8.ps, 3⟩ : Hold)).map encHold))), (6, (.var [(.dat nilS), (.dat nilS)])), (3, (.var [(.dat (.sl 2 (h.b.map encPay))), (.own 83)]))]) (True ∧ True ∧ True ∧ True ∧ True ∧ True ∧ True ∧ ((h.h.map encHold)[(bsAt (h.h.map (·.t)) t)]? = some (.agg [(I x8.t), (I x8.p), (.sl 2 (x8.ps.map encPay)), (I x8.s)]) ∧ (h.h.map encHold).set (bsAt (h.h.map (·.t)) t) (.agg [(I x8.t), (I x8.p), (.sl 2 (x8.ps.map encPay)), (I 3)]) = (h.h.set (bsAt (h.h.map (·.t)) t) (⟨x8.t, x8.p, x8.ps, 3⟩ : Hold)).map encHold) ∧ True) (by kernel_rfl) ⟨trivial, trivial, trivial, trivial, trivial, trivial, trivial, ⟨by rw [List.getElem?_map, hx9]; rfl, by rw [List.map_set]; rfl⟩, trivial⟩ ?_
          have hs15 : ((h.h.set (bsAt (h.h.map (·.t)) t) (⟨x8.t, x8.p, x8.ps, 3⟩ : Hold)))[(bsAt (h.h.map (·.t)) t)]? = some (⟨x8.t, x8.p, x8.ps, 3⟩ : Hold) := by rw [List.getElem?_set_self (by first | exact met_lt (by assumption) | omega)]
          refine T_regDE 15 [{}, {}, {}, {}, {}, { d := some (.agg [(I x8.t), (I x8.p), (.sl 2 (x8.ps.map encPay)), (I 3)]) }, {}, {}, {}, { d := some (.agg [(I x8.t), (I x8.p), (.sl 2 (x8.ps.map encPay)), (I 3)]) }, { d := some (I (sumFrom 0 x8.ps)) }, {}, {}, { d := some (.sl 2 ((cred h.b [(⟨x8.p, (sumFrom 0 x8.ps)⟩ : Pay)]).map encPay)) }] (mk 76 [(3, (.one (.ref 3 0))), (6, (.one (.ref 6 0))), (11, (.one (.rref 83 (bsAt (h.h.map (·.t)) t) 0))), (60, (.one (.ref 3 0))), (61, (dt (.sl 2 (h.b.map encPay)))), (62, (.one (.rref 83 (bsAt (h.h.map (·.t)) t) 0))), (63, (.one (.rref 83 (bsAt (h.h.map (·.t)) t) 0))), (64, (.one (.rref 83 (bsAt (h.h.map (·.t)) t) 1))), (65, (dt (I x8.p))), (66, (.one (.rref 83 (bsAt (h.h.map (·.t)) t) 0))), (67, (.one (.rref 83 (bsAt (h.h.map (·.t)) t) 0))), (68, (.one (.rref 83 (bsAt (h.h.map (·.t)) t) 2))), (69, (dt (.sl 2 (x8.ps.map encPay)))), (70, (dt (I (sumFrom 0 x8.ps)))), (71, (.agg [(.dat (I x8.p)), (.dat (I (sumFrom 0 x8.ps)))])), (72, (dt (.sl 2 ([(⟨x8.p, (sumFrom 0 x8.ps)⟩ : Pay)].map encPay)))), (73, (dt (.sl 2 ((cred h.b [(⟨x8.p, (sumFrom 0 x8.ps)⟩ : Pay)]).map encPay)))), (74, (.one (.ref 3 0)))] [(83, (.row 54 4 ((h.h.set (bsAt (h.h.map (·.t)) t) (⟨x8.t, x8.p, x8.ps, 3⟩ : Hold)).map encHold))), (6, (.var [(.dat nilS), (.dat nilS)])), (3, (.var [(.dat (.sl 2 ((cred h.b [(⟨x8.p, (sumFrom 0 x8.ps)⟩ : Pay)]).map encPay))), (.own 83)]))]) ((True ∧ True ∧ True ∧ True ∧ True ∧ True ∧ True ∧ True ∧ True ∧ True ∧ True ∧ (((h.h.set (bsAt (h.h.map (·.t)) t) (⟨x8.t, x8.p, x8.ps, 3⟩ : Hold)).map encHold)[(bsAt (h.h.map (·.t)) t)]? = some (.agg [(I x8.t), (I x8.p), (.sl 2 (x8.ps.map encPay)), (I 3)])) ∧ True ∧ True ∧ True ∧ True ∧ True ∧ True ∧ True ∧ (((h.h.set (bsAt (h.h.map (·.t)) t) (⟨x8.t, x8.p, x8.ps, 3⟩ : Hold)).map encHold)[(bsAt (h.h.map (·.t)) t)]? = some (.agg [(I x8.t), (I x8.p), (.sl 2 (x8.ps.map encPay)), (I 3)])) ∧ True ∧ (Ret Try.prog 38 [(.sl 2 (x8.ps.map encPay))] (I (sumFrom 0 x8.ps))) ∧ True ∧ True ∧ True ∧ (dfill (fun i => some (i * 2, 2)) (List.replicate (1 * 2) .junk) [(0, [(.dat (I x8.p)), (.dat (I (sumFrom 0 x8.ps)))])] = some ((flat ([(⟨x8.p, (sumFrom 0 x8.ps)⟩ : Pay)].map encPay)).map .dat)) ∧ True ∧ (Ret Try.prog 41 [(.sl 2 (h.b.map encPay)), (.sl 2 ([(⟨x8.p, (sumFrom 0 x8.ps)⟩ : Pay)].map encPay))] (.sl 2 ((cred h.b [(⟨x8.p, (sumFrom 0 x8.ps)⟩ : Pay)]).map encPay))) ∧ True ∧ True ∧ True) ∧ True ∧ True ∧ True) (by kernel_rfl) (by kernel_rfl) (by kernel_rfl) ⟨⟨trivial, trivial, trivial, trivial, trivial, trivial, trivial, trivial, trivial, trivial, trivial, (by rw [List.getElem?_map, hs15]; rfl), trivial, trivial, trivial, trivial, trivial, trivial, trivial, (by rw [List.getElem?_map, hs15]; rfl), trivial, (ret_sum _ (by exact hp _ (List.mem_of_getElem? (by assumption)))), trivial, trivial, trivial, rfl, trivial, (ret_credited _ _ (by have := len_of_check (by assumption); omega) (by simp) (ne_of_check (by assumption))), trivial, trivial, trivial⟩, ⟨trivial, trivial, trivial⟩⟩ ?_
          refine T_reg [] [6, 7] [3] (mk 76 [(6, (.one (.ref 6 0))), (7, (dt (I 0)))] [(83, (.row 54 4 ((h.h.set (bsAt (h.h.map (·.t)) t) (⟨x8.t, x8.p, x8.ps, 3⟩ : Hold)).map encHold))), (6, (.var [(.dat (.sl 2 ((cred h.b [(⟨x8.p, (sumFrom 0 x8.ps)⟩ : Pay)]).map encPay))), (.own 83)]))]) (True ∧ True ∧ True ∧ True ∧ True ∧ True ∧ True) (by kernel_rfl) ⟨trivial, trivial, trivial, trivial, trivial, trivial, trivial⟩ ?_
          refine T_ret ?_
          exact ret_here [(.agg [(.dat (.sl 2 ((cred h.b [(⟨x8.p, (sumFrom 0 x8.ps)⟩ : Pay)]).map encPay))), (.own 83)]), (dt (I 0))] (by kernel_rfl) ⟨⟨(.inl (congrArg (fun l => D.sl 2 (l.map encPay)) (by simp_all [settled, none0] : (cred h.b [(⟨x8.p, (sumFrom 0 x8.ps)⟩ : Pay)]) = (settled h t pd).1.b))), (by show D.sl 4 ((settled h t pd).1.h.map encHold) = D.sl 4 ((h.h.set (bsAt (h.h.map (·.t)) t) (⟨x8.t, x8.p, x8.ps, 3⟩ : Hold)).map encHold); exact congrArg (fun l => D.sl 4 (l.map encHold)) (by simp_all [settled, none0] : (settled h t pd).1.h = (h.h.set (bsAt (h.h.map (·.t)) t) (⟨x8.t, x8.p, x8.ps, 3⟩ : Hold)))), trivial⟩, (.inl (congrArg I (by simp_all [settled, none0] : 0 = (settled h t pd).2))), trivial⟩

end Go.Proofs.Ytpkbecaailhhmaa

/-
  Walks at the data level, printed by gen.py: what each Go function returns, for data that reads as said. Conditions: those of each theorem.
-/
namespace Go.Proofs.Ytpkbecaailhhmaa
open Go.DL
set_option maxRecDepth 100000
set_option linter.unusedVariables false
set_option linter.unusedSimpArgs false
end Go.Proofs.Ytpkbecaailhhmaa

/-
  The plain functions of chapter 39, second part: Hold, as the code computes it.
-/
set_option linter.unusedVariables false
set_option linter.unusedSimpArgs false
namespace Go.Proofs.Ytpkbecaailhhmaa
open Go.DL
def held (h : House) (t p : Int) (l : List Pay) : House × Int :=
  if check h ≠ 0 then (none0, check h)
  else if t < 1 ∨ t > 4096 ∨ bsMet (h.h.map (·.t)) t = true then (none0, 391)
  else if hasB h p = false ∨ paysOK (hasB h) l = false then (none0, 1)
  else if (bal p h.b).1 < sumFrom 0 l then (none0, 390)
  else (⟨cred h.b [⟨p, IntKind.i64.wrap (0 - sumFrom 0 l)⟩], h.h.take (bsAt (h.h.map (·.t)) t) ++ [⟨t, p, l, 1⟩] ++ h.h.drop (bsAt (h.h.map (·.t)) t)⟩, 0)
theorem bsAt_le_h {α : Type} (f : α → Int) (l : List α) (key : Int) : bsAt (l.map f) key ≤ l.length := by
  have := bs_le (l.map f) key 0 (l.map f).length (Nat.zero_le _)
  rw [List.length_map] at this
  unfold bsAt
  simpa using this
theorem bsAt_nil (key : Int) : bsAt [] key = 0 := by
  unfold bsAt; rw [bs, if_neg (by simp)]
theorem bsAt_nil_le {α : Type} {f : α → Int} {l : List α} {key : Int} {n : Nat} (h : l = []) : bsAt (l.map f) key ≤ n := by
  subst h; rw [List.map_nil, bsAt_nil]; exact Nat.zero_le _
end Go.Proofs.Ytpkbecaailhhmaa

/-
  The data-level framework, part u: copy at elements of any number of cells, into a plain row. Generic in the program; no condition.
-/
set_option linter.unusedVariables false
set_option linter.unusedSimpArgs false
namespace Go.DL
open Go.RowKit

variable {P : Program}

theorem run_copy_rowK (w : World) (dT sT ty elem : TypeId) (k g o dLen dCap : Nat) (a : Addr) (sLen sCap : Nat) (cur : Array Value) (t : TypeId) (cs : List Value)
    (hu : P.underlying dT = some (.slice elem)) (hs : (P.info? elem).map (·.size) = some k)
    (hg : w.heap[g]? = some (.cells cur t (0, 0))) (hn : cs.length = Nat.min sLen dLen * k)
    (hsrc : ∀ j v, cs[j]? = some v → w.cell? (a.add j) = some v) (hfit : o + cs.length ≤ cur.size) (h1 : ∀ v ∈ cs, v.oneCell' = true) :
    (Builtin.copy_ #[dT, sT] ty #[.slice (some ⟨g, o, none⟩) dLen dCap, .slice (some a) sLen sCap]).run P w =
      .ok (goInt (Nat.min sLen dLen)) (w.setRow g (cur.toList.take o ++ cs ++ cur.toList.drop (o + cs.length)).toArray) := by
  have hl := run_loadCells_list (P := P) w a cs hsrc
  have hst := run_storeCells_at P g o t cs 0 cur w hg (by simpa using hfit) h1
  cases hq : P.info? elem with
  | none => simp [hq] at hs
  | some i =>
    have hi : i.size = k := by simpa [hq] using hs
    simp [Builtin.copy_, run_underlying hu, Builtin.lenOf, Builtin.firstCells, sizeOf, typeInfo, hq, hi, ← hn, hl, hst]
end Go.DL

/-
  slices.Insert at holds, walked at the machine's level: what a call with an own row and another own row makes. Conditions: those of each theorem.
-/
namespace Go.Proofs.Ytpkbecaailhhmaa
open Go.DL Go.RowKit Go.Lib
set_option maxRecDepth 100000
set_option linter.unusedVariables false
set_option linter.unusedSimpArgs false

theorem t3 : Try.prog.underlying 3 = some (TypeDesc.int IntKind.i64) := by kernel_rfl
theorem t4 : Try.prog.underlying 4 = some TypeDesc.bool := by kernel_rfl
theorem t24 : Try.prog.underlying 24 = some (TypeDesc.slice 54) := by kernel_rfl
theorem i54 : (Try.prog.info? 54).map (fun i => (i.size, i.bytes)) = some (4, 48) := by kernel_rfl
theorem mixed : Try.prog.follows .mixedOrders = true := by kernel_rfl
theorem sz54 (w : World) : (Go.sizeOf 54).run Try.prog w = .ok 4 w := by
  have := i54
  cases h : Try.prog.info? 54 with
  | none => rw [h] at this; cases this
  | some i => rw [h] at this; simp at this; simp [sizeOf, typeInfo, h, this.1]
theorem agg3 (w : World) : (isAgg 3).run Try.prog w = .ok false w := by unfold isAgg; rw [Sem.run_bind, run_underlying t3 w]; rfl
theorem agg4 (w : World) : (isAgg 4).run Try.prog w = .ok false w := by unfold isAgg; rw [Sem.run_bind, run_underlying t4 w]; rfl
theorem agg24 (w : World) : (isAgg 24).run Try.prog w = .ok false w := by unfold isAgg; rw [Sem.run_bind, run_underlying t24 w]; rfl

theorem step_copyI {P : Program} {ops : Array Oper} {o : Oper} {a : Act} {w : World} {K : Act → World → Prop} {Q : Exit → Act → World → Prop} {E : Prop}
    (hg : o.guard = none) (d x : Operand) (dT sT : TypeId) (hop : o.op = Op.call { callee := Callee.builtin Builtin.copy, args := #[d, x], argTypes := #[dT, sT] })
    (v u : Value) (hd : a.eval d = v) (hx : a.eval x = u) {v' : Value} {w' : World} (hr : (Builtin.copy_ #[dT, sT] o.type #[v, u]).run P w = .ok v' w') (hK : K (a.put o.dst v') w') :
    if Region.wanted o (yielded ops a.tmps) = true then Oper.wp P o a w K Q else E := by
  rw [if_pos (by simp [Region.wanted, hg])]
  unfold Oper.wp
  simp [execOp, hop, resolve, invoke, builtin, hd, hx, hr]
  exact hK

theorem wpList_copyI {P : Program} (w : World) {ops : Array Oper} {rest : List Oper} {o : Oper} {a : Act} {Q : Exit → Act → World → Prop} (hgd : o.guard = none) (d s : Operand) (t t' : TypeId)
    (ho : o.op = .call { callee := .builtin .copy, args := #[d, s], argTypes := #[t, t'] }) (v u : Value) (hd : a.eval d = v) (hs : a.eval s = u) {v' : Value} {w' : World}
    (hr : (Builtin.copy_ #[t, t'] o.type #[v, u]).run P w = .ok v' w') (h : wpList P ops Q rest (a.put o.dst v') w') : wpList P ops Q (o :: rest) a w :=
  wpList_plain hgd fun _ hK => by
    have := step_copyI (P := P) (ops := ops) (Q := Q) (E := True) hgd d s t t' ho v u hd hs hr (hK _ _ h)
    rwa [if_pos (by simp [Region.wanted, hgd])] at this

set_option maxHeartbeats 4000000 in
/-- In place: there is room, and the place lies before the end. -/
theorem ins_shift (w : World) (g g2 n cap i m vc : Nat) (cur cur2 : Array Value) (ys : List Value) (hi : i < n) (hm : 0 < m) (hroom : n + m ≤ cap) (hcap : cap ≤ 9223372036854775807) (hne : g2 ≠ g)
    (hg : w.heap[g]? = some (.cells cur 54 (0, 0))) (hg2 : w.heap[g2]? = some (.cells cur2 54 (0, 0))) (hcs : cur.size = cap * 4) (hyl : ys.length = m * 4)
    (hys : ∀ (j : Nat) (v : Value), ys[j]? = some v → cur2[j]? = some v) (h1x : ∀ v ∈ cur.toList.take (n * 4), v.oneCell' = true) (h1y : ∀ v ∈ ys, v.oneCell' = true) :
    Calls Try.prog 46 #[.slice (some ⟨g, 0, none⟩) n cap, .int .i64 i, .slice (some ⟨g2, 0, none⟩) m vc] w fun e w' =>
      e = .returned (.slice (some ⟨g, 0, none⟩) (n + m) cap) ∧ ∃ c1 : Array Value, c1 = (cur.toList.take ((i + m) * 4) ++ (cur.toList.take (n * 4)).drop (i * 4) ++ cur.toList.drop ((n + m) * 4)).toArray ∧
        w' = w.drew.setRow g (c1.toList.take (i * 4) ++ ys ++ c1.toList.drop ((i + m) * 4)).toArray := by
  have u3 := run_underlying (P := Try.prog) t3; have u4 := run_underlying (P := Try.prog) t4; have u24 := run_underlying (P := Try.prog) t24
  have t3 := t3; have t4 := t4; have t24 := t24; have mixed := mixed
  have a3 := agg3; have a4 := agg4; have a24 := agg24; have z54 := sz54
  have hz1 : ¬ ((m : Int) = 0) := by omega
  have hz2 : ¬ ((i : Int) = (n : Int)) := by omega
  have hw1 : IntKind.i64.wrap ((i : Int) + (m : Int)) = (i : Int) + (m : Int) := by rw [IntKind.wrap_i64]; omega
  have hw2 : IntKind.i64.wrap ((n : Int) + (m : Int)) = (n : Int) + (m : Int) := by rw [IntKind.wrap_i64]; omega
  have hb1 : (0 : Int) ≤ (i : Int) + (m : Int) := by omega
  have hin : i ≤ n := by omega
  have htn : ((i : Int) + (m : Int)).toNat = i + m := by omega
  have htn2 : ((n : Int) + (m : Int)).toNat = n + m := by omega
  have hb2 : ¬ (cap = i + m) := by omega
  have hb4 : ¬ (cap = i) := by omega
  have hb3 : (i : Int) ≤ (n : Int) + (m : Int) := by omega
  have hsa : w.shape? g2 = some (54, cur2.size) := by simp [World.shape?, hg2]
  have hsb : w.shape? g = some (54, cur.size) := by simp [World.shape?, hg]
  have hfa : w.frozen? ⟨g2, 0, none⟩ = false := by simp [World.frozen?, hg2]
  have hfe : w.frozen? ⟨g2, cur2.size, none⟩ = false := by simp [World.frozen?, hg2]
  have hov : ∀ lb cb, (callFunc 61 #[.slice (some ⟨g2, 0, none⟩) m vc, .slice (some ⟨g, (i + m) * 4, none⟩) lb cb]).run Try.prog w = .ok (.value (.bool false)) w := fun lb cb => by
    rw [run_callFunc_extern Try.func61 (by kernel_rfl) (by kernel_rfl) (by kernel_rfl) (e := Extern.SlicesOverlaps.overlaps #[24, 24] #[4]) (by kernel_rfl),
      Lib.run_overlaps_apart w 24 4 54 t24 4 sz54 ⟨g2, 0, none⟩ ⟨g, (i + m) * 4, none⟩ m vc lb cb hne 54 54 cur2.size cur.size hsa hsb (by omega) hfa hfe]
    rfl
  obtain ⟨c1, hc1⟩ : ∃ c1 : Array Value, id (c1 = (cur.toList.take ((i + m) * 4) ++ (cur.toList.take (n * 4)).drop (i * 4) ++ cur.toList.drop ((n + m) * 4)).toArray) := ⟨_, rfl⟩
  have hs54 : (Try.prog.info? 54).map (·.size) = some 4 := by kernel_rfl
  have hgd : w.drew.heap[g]? = some (.cells cur 54 (0, 0)) := hg
  have hg2d : w.drew.heap[g2]? = some (.cells cur2 54 (0, 0)) := hg2
  have hcp1 : ∀ ty dc sc, (Builtin.copy_ #[24, 24] ty #[.slice (some ⟨g, (i + m) * 4, none⟩) (n + m - (i + m)) dc, .slice (some ⟨g, i * 4, none⟩) (n + m - i) sc]).run Try.prog w.drew = .ok (goInt ((n - i : Nat) : Int)) (w.drew.setRow g c1) := fun ty dc sc => by
    have hlen : ((cur.toList.take (n * 4)).drop (i * 4)).length = (n - i) * 4 := by
      rw [List.length_drop, List.length_take, Array.length_toList, hcs]; omega
    have hmin : Nat.min (n + m - i) (n + m - (i + m)) = n - i := by simp only [Nat.min_def]; split <;> omega
    have := run_copy_rowK (P := Try.prog) w.drew 24 24 ty 54 4 g ((i + m) * 4) (n + m - (i + m)) dc ⟨g, i * 4, none⟩ (n + m - i) sc cur 54 ((cur.toList.take (n * 4)).drop (i * 4)) t24 hs54 hgd
      (by rw [hmin, hlen])
      (fun j v hj => by
        rw [List.getElem?_drop, List.getElem?_take] at hj
        split at hj
        · rw [Addr.add_lit, cell_of_row w.drew _ _ cur 54 (0, 0) hgd]; simpa using hj
        · cases hj)
      (by rw [hlen, hcs]; omega) (fun v hv => h1x v (List.mem_of_mem_drop hv))
    rw [this, hmin, hlen, show (i + m) * 4 + (n - i) * 4 = (n + m) * 4 by omega, hc1]
  have hcp2 : ∀ ty dc, (Builtin.copy_ #[24, 24] ty #[.slice (some ⟨g, i * 4, none⟩) (n + m - i) dc, .slice (some ⟨g2, 0, none⟩) m vc]).run Try.prog (w.drew.setRow g c1) = .ok (goInt ((m : Nat) : Int)) (w.drew.setRow g (c1.toList.take (i * 4) ++ ys ++ c1.toList.drop ((i + m) * 4)).toArray) := fun ty dc => by
    have hc1l : c1.size = cap * 4 := by
      rw [hc1]
      simp only [List.size_toArray, List.length_append, List.length_take, List.length_drop, Array.length_toList, hcs]
      omega
    have hmin : Nat.min m (n + m - i) = m := by simp only [Nat.min_def]; split <;> omega
    have := run_copy_rowK (P := Try.prog) (w.drew.setRow g c1) 24 24 ty 54 4 g (i * 4) (n + m - i) dc ⟨g2, 0, none⟩ m vc c1 54 ys t24 hs54 (setRow_heap _ g cur c1 54 (0, 0) hgd)
      (by rw [hmin, hyl])
      (fun j v hj => by
        rw [Addr.add_lit, cell_setRow_other _ _ _ _ hne, cell_of_row w.drew _ _ cur2 54 (0, 0) hg2d]
        simpa using hys j v hj)
      (by rw [hyl, hc1l]; omega) h1y
    rw [this, hmin, setRow_setRow, hyl, show i * 4 + m * 4 = (i + m) * 4 by omega]
  go_enter Try.func46, Try.ntmps46
  go_wp2_with (simp only [hov])
  go_region_law_o (refine step_copyI rfl _ _ 24 24 rfl _ _ (by simp [Act.eval, Act.put]) (by simp [Act.eval, Act.put]) (hcp1 _ _ _) ?_)
  go_wp2_with (at_builtin; refine wpList_copyI _ rfl _ _ 24 24 rfl _ _ rfl rfl (hcp2 _ _) ?_)
  go_ret
  exact ⟨rfl, c1, hc1, by rw [List.append_assoc]⟩
end Go.Proofs.Ytpkbecaailhhmaa

/-
  The data-level framework, part v: slices.Insert into an own row. Generic in the program; no condition.
-/
set_option linter.unusedVariables false
set_option linter.unusedSimpArgs false
namespace Go.DL
open Go.RowKit

/-- What a call of slices.Insert at an own row makes. -/
def InsertOK (P : Program) (f : FuncId) (e : TypeId) (sz bytes : Nat) : Prop :=
  Callable P f ∧ ∀ (w : World) (v : Value) (n : Nat) (xs : List Value) (g2 m vc : Nat) (cur2 : Array Value) (ys : List Value) (i : Nat),
    w.ownsRow 0 e sz v n xs → w.heap[g2]? = some (.cells cur2 e (0, 0)) → v.ownBlock ≠ some g2 → ys.length = m * sz → (∀ (j : Nat) (u : Value), ys[j]? = some u → cur2[j]? = some u) →
    i ≤ n → 0 < m → (n + m) * bytes ≤ 140737488355328 → (∀ u ∈ xs, u.oneCell' = true) → (∀ u ∈ ys, u.oneCell' = true) →
    Calls P f #[v, .int .i64 i, .slice (some ⟨g2, 0, none⟩) m vc] w fun x w' => ∃ v', x = .returned v' ∧ w'.ownsRow 0 e sz v' (n + m) (xs.take (i * sz) ++ ys ++ xs.drop (i * sz)) ∧
      w.grownBy w' v.ownBlock ∧ ∀ k, v'.ownBlock = some k → v.ownBlock = some k ∨ w.heap.size ≤ k

section
variable {P : Program} {w : World} {A : Nat → Prop} {M : BMap}

/-- A new row stands for the old one. -/
theorem St.rerow {E : Env} {a : Act} {s : DS} (h : St E M w a s) {oid : Option Nat} {id : Nat} (hbase : E.base ≤ id) {e : TypeId} {sz : Nat} {ds : List D} {v v' : Value} {w' : World} {tv : List Value}
    (ho : (oid = none ∧ v.ownBlock = none) ∨ ∃ i b, oid = some i ∧ (i, b) ∈ s.bx ∧ boxBlk M (i, b) = v.ownBlock)
    (hu : ∀ d ∈ ds, d.cells.length = sz)
    (hc : ∀ (j : Nat) (c : D), (flat ds)[j]? = some c → ∃ u, tv[j]? = some u ∧ RelD w (Av E.A0 M s.bx) c u)
    (hown : w'.ownsRow 0 e sz v' ds.length tv) (hg : w.grownBy w' v.ownBlock) (hblk : ∀ k, v'.ownBlock = some k → v.ownBlock = some k ∨ w.heap.size ≤ k) :
    ∃ M', St E M' w' a (((dropOpt oid s).drop id).push id (.row e sz ds)) ∧ M'.rv id = v' := by
  obtain ⟨M1, h1, hav1, hold1⟩ : ∃ M1, StA E M1 w a (dropOpt oid s) (Av E.A0 M s.bx) ∧ (∀ b, Av E.A0 M1 (dropOpt oid s).bx b → Av E.A0 M s.bx b) ∧
      (∀ k, v.ownBlock = some k → (E.O k ∨ E.w0.heap.size ≤ k) ∧ Av E.A0 M s.bx k ∧ ∀ p ∈ (dropOpt oid s).bx, boxBlk M1 p ≠ some k) := by
    rcases ho with ⟨rfl, hn⟩ | ⟨i, b, rfl, hm, hb⟩
    · exact ⟨M, h.toA, fun _ h => h, fun k hk => by rw [hn] at hk; cases hk⟩
    · refine ⟨M.upd i 0 undef 0, h.toA.drop i 0 undef 0, fun _ hb => Av_drop hb, fun k hk => ?_⟩
      rw [← hb] at hk
      refine ⟨(h.boxes.new _ hm k hk).1, .inr ⟨_, hm, hk⟩, fun p hp hpk => ?_⟩
      obtain ⟨hne, b', hm', he⟩ := mem_drop hp
      obtain ⟨pi, pb⟩ := p
      simp only at he hne hm'
      subst he
      rw [boxBlk_upd hne, boxBlk_scrub] at hpk
      have := blks_inj h.boxes.blks _ hm' _ hm k hpk hk
      cases this
      exact hne rfl
  have h2 := h1.drop id (v'.ownBlock.getD 0) v' sz
  refine ⟨M1.upd id (v'.ownBlock.getD 0) v' sz, StA.push (row := v.ownBlock) h2 drop_free hbase hg (fun k hk => ?_) (fun b hb => hav1 b (Av_drop hb)) (fun k hk => ?_) (fun A' hA' => ?_), by simp [BMap.upd]⟩
  · obtain ⟨g1, g2, g3⟩ := hold1 k hk
    refine ⟨g1, g2, fun p hp hpk => ?_⟩
    obtain ⟨hne, b', hm', he⟩ := mem_drop hp
    obtain ⟨pi, pb⟩ := p
    simp only at he hne hm'
    subst he
    rw [boxBlk_upd hne, boxBlk_scrub] at hpk
    exact g3 _ hm' hpk
  · have hk' : v'.ownBlock = some k := by simpa [boxBlk, BMap.upd] using hk
    exact ⟨hblk k hk', (hown.lt k hk').2⟩
  · refine ⟨tv, ?_, hu, by simp [BMap.upd], fun j c hj => ?_, fun k hk => ?_⟩
    · simpa [BMap.upd] using hown
    · obtain ⟨u, hu, hr⟩ := hc j c hj
      exact ⟨u, hu, hr.mono hA'⟩
    · have hk' : v'.ownBlock = some k := by simpa [BMap.upd] using hk
      simp [BMap.upd, hk']

theorem own_one {xs : List Value} {es : List D} {sz : Nat} (hl : xs.length = es.length * sz) (hu : ∀ d ∈ es, d.cells.length = sz) (h1 : cellsOne es)
    (hc : ∀ (j : Nat) (c : D), (flat es)[j]? = some c → ∃ u, xs[j]? = some u ∧ RelD w A c u) : ∀ u ∈ xs, u.oneCell' = true := by
  intro u hm
  obtain ⟨j, hj, rfl⟩ := List.mem_iff_getElem.1 hm
  have hlt : j < (flat es).length := by rw [flat_length es hu, ← hl]; exact hj
  obtain ⟨u', hu', hr⟩ := hc j _ (List.getElem?_eq_getElem hlt)
  rw [List.getElem?_eq_getElem hj] at hu'
  cases hu'
  exact RelD.one hr (uniform_flat_one h1 j _ (List.getElem?_eq_getElem hlt))

theorem TL_insert {base : Nat} {ops : Array Oper} {o : Oper} {rest : List Oper} {Q : DX → DS → Prop} {s : DS} (e : TypeId) (sz bytes : Nat) {fop x i v : Operand} {ts : Array TypeId} (f : FuncId) (hok : InsertOK P f e sz bytes)
    (ho : o.op = .call { callee := .value fop, args := #[x, i, v], argTypes := ts }) (hgd : o.guard = none) (hf : s.ev fop = .one (.fn f []))
    (oid : Option Nat) (es : List D) (hx : oldRow s.bx e sz (s.ev x) = some (oid, es)) (k : Nat) (iv : Int) (hi : s.ev i = .one (.dat (.int .i64 iv))) (hik : iv = k) (vid : Nat) (hv : s.ev v = .one (.own vid)) (xs : List D) (hl : s.bx.lookup vid = some (.row e sz xs))
    (hne : oid ≠ some vid) (id : Nat) (hid : base ≤ id) (hle : k ≤ es.length) (hm : 0 < xs.length) (hby : (es.length + xs.length) * bytes ≤ 140737488355328) (h1 : cellsOne es) (h2 : cellsOne xs) (ds : List D) (hds : es.take k ++ xs ++ es.drop k = ds)
    (h : TL P base ops rest Q ((((dropOpt oid s).drop id).push id (.row e sz ds)).put o.dst (.one (.own id)))) : TL P base ops (o :: rest) Q s := by
  subst hds
  intro E M w a hE hst
  refine wpList_plain hgd fun K hK => ?_
  have hslots := ev_rel hst.size hst.slots
  have hfr := hslots fop
  rw [hf] at hfr
  obtain ⟨cv, hfv, hcs, hcv⟩ := hfr
  have hcv0 : cv = #[] := Array.eq_empty_of_size_eq_zero (by simpa using hcs)
  subst hcv0
  unfold Oper.wp
  rw [run_call_func ho hfv hok.1, Oper.upon_enter]
  obtain ⟨hu1, ov, hown, hc1, hoid⟩ := oldRow_owns hst.boxes.ok hx (hslots x)
  have hiv := hslots i
  rw [hi] at hiv
  simp only [LV.rel, C.rel] at hiv
  have hiv' : a.eval i = .int .i64 k := by rw [relD_int hiv, hik]
  have hvv := hslots v
  rw [hv] at hvv
  simp only [LV.rel, C.rel] at hvv
  have hvm := lookup_mem hl
  obtain ⟨ys, hyo, hu2, _, hc2, _⟩ := hst.boxes.ok vid _ hvm
  rcases hyo.2 with ⟨_, h0⟩ | ⟨g2, vc, cur2, hrv, _, hg2, hnc, _, hcs2, htk⟩
  · omega
  have hvb : boxBlk M (vid, Box.row e sz xs) = some g2 := by simp [boxBlk, hrv, Value.ownBlock]
  have hdiff : (a.eval x).ownBlock ≠ some g2 := by
    intro hxe
    rcases hoid with ⟨_, hn⟩ | ⟨ii, b, ho', hmem, hb⟩
    · rw [hn] at hxe; cases hxe
    · have := blks_inj hst.boxes.blks _ hmem _ hvm g2 (hb.trans hxe) hvb
      cases this
      exact hne ho'
  have hargs : (#[x, i, v] : Array Operand).map a.eval ++ #[] = #[a.eval x, .int .i64 k, .slice (some ⟨g2, 0, none⟩) xs.length vc] := by
    simp [hiv', hvv, hrv]
  rw [hargs]
  have h1x := own_one hown.1 hu1 h1 hc1
  have h1y := own_one hyo.1 hu2 h2 hc2
  refine (hok.2 w (a.eval x) es.length ov g2 xs.length vc cur2 ys k hown hg2 hdiff hyo.1 (fun j u hj => ?_) hle hm hby h1x h1y).mono ?_
  · rw [← htk, List.getElem?_take] at hj
    split at hj
    · simpa using hj
    · cases hj
  rintro x' w' ⟨v', rfl, hown', hgr, hblk⟩
  have hlen : (es.take k ++ xs ++ es.drop k).length = es.length + xs.length := by
    simp only [List.length_append, List.length_take, List.length_drop]; omega
  have hflat : flat (es.take k ++ xs ++ es.drop k) = (flat es).take (k * sz) ++ flat xs ++ (flat es).drop (k * sz) := by
    rw [flat_append, flat_append, flat_take es k hu1, flat_drop es k hu1]
  have hfl1 := flat_length es hu1
  have hfl2 := flat_length xs hu2
  have hol := hown.1
  have hyl := hyo.1
  have hks : k * sz ≤ es.length * sz := Nat.mul_le_mul_right _ hle
  obtain ⟨M', hst', hrv'⟩ := hst.rerow (id := id) (by omega : E.base ≤ id) (ds := es.take k ++ xs ++ es.drop k) (tv := ov.take (k * sz) ++ ys ++ ov.drop (k * sz)) hoid
    (fun d hd => by
      simp only [List.mem_append] at hd
      rcases hd with (hd | hd) | hd
      · exact hu1 d (List.mem_of_mem_take hd)
      · exact hu2 d hd
      · exact hu1 d (List.mem_of_mem_drop hd))
    (fun j c hj => by
      rw [hflat] at hj
      have ht1 : ((flat es).take (k * sz)).length = k * sz := by rw [List.length_take]; omega
      have ht2 : (ov.take (k * sz)).length = k * sz := by rw [List.length_take]; omega
      rw [List.getElem?_append, List.getElem?_append, List.length_append, ht1] at hj
      rw [List.getElem?_append, List.getElem?_append, List.length_append, ht2, hyl, ← hfl2]
      split at hj
      · rename_i hlt
        rw [if_pos hlt]
        split at hj
        · rename_i hlt2
          rw [if_pos hlt2]
          rw [List.getElem?_take, if_pos hlt2] at hj
          rw [List.getElem?_take, if_pos hlt2]
          exact hc1 j c hj
        · rename_i hlt2
          rw [if_neg hlt2]
          exact hc2 _ c hj
      · rename_i hlt
        rw [if_neg hlt]
        rw [List.getElem?_drop] at hj ⊢
        exact hc1 _ c hj)
    (by rw [hlen]; exact hown') hgr hblk
  exact hK _ _ (h E M' w' _ hE (hst'.put o.dst (by simp only [LV.rel, C.rel]; exact hrv'.symm)))
end
end Go.DL

/-
  slices.Insert at holds, second part: at the end, and with a new row. Conditions: those of each theorem.
-/
namespace Go.Proofs.Ytpkbecaailhhmaa
open Go.DL Go.RowKit Go.Lib
set_option maxRecDepth 100000
set_option linter.unusedVariables false
set_option linter.unusedSimpArgs false

set_option maxHeartbeats 4000000 in
theorem ins_end_nil (w : World) (g2 m vc : Nat) (hm : 0 < m) {v' : Value} {w1 : World}
    (hr : ∀ ty, (Builtin.append_ #[24, 24] ty #[.slice none 0 0, .slice (some ⟨g2, 0, none⟩) m vc]).run Try.prog w = .ok v' w1) :
    Calls Try.prog 46 #[.slice none 0 0, .int .i64 (0 : Nat), .slice (some ⟨g2, 0, none⟩) m vc] w fun e w' => e = .returned v' ∧ w' = w1 := by
  have u3 := run_underlying (P := Try.prog) t3; have u4 := run_underlying (P := Try.prog) t4; have u24 := run_underlying (P := Try.prog) t24
  have t3 := t3; have t4 := t4; have t24 := t24; have mixed := mixed
  have a3 := agg3; have a4 := agg4; have a24 := agg24; have z54 := sz54
  have hz1 : ¬ ((m : Int) = 0) := by omega
  go_enter Try.func46, Try.ntmps46
  go_wp2_with (at_builtin; refine Lib.wpList_append_run _ rfl _ _ _ _ rfl _ _ rfl rfl _ _ (hr _) ?_)
  all_goals (go_ret; exact ⟨rfl, rfl⟩)

set_option maxHeartbeats 4000000 in
theorem ins_end_row (w : World) (g g2 n cap m vc : Nat) (hm : 0 < m) (hnc : n ≤ cap) (hcap : cap ≤ 9223372036854775807) {v' : Value} {w1 : World}
    (hr : ∀ ty, (Builtin.append_ #[24, 24] ty #[.slice (some ⟨g, 0, none⟩) n cap, .slice (some ⟨g2, 0, none⟩) m vc]).run Try.prog w = .ok v' w1) :
    Calls Try.prog 46 #[.slice (some ⟨g, 0, none⟩) n cap, .int .i64 n, .slice (some ⟨g2, 0, none⟩) m vc] w fun e w' => e = .returned v' ∧ w' = w1 := by
  have u3 := run_underlying (P := Try.prog) t3; have u4 := run_underlying (P := Try.prog) t4; have u24 := run_underlying (P := Try.prog) t24
  have t3 := t3; have t4 := t4; have t24 := t24; have mixed := mixed
  have a3 := agg3; have a4 := agg4; have a24 := agg24; have z54 := sz54
  have hz1 : ¬ ((m : Int) = 0) := by omega
  go_enter Try.func46, Try.ntmps46
  go_wp2_with (at_builtin; refine Lib.wpList_append_run _ rfl _ _ _ _ rfl _ _ rfl rfl _ _ (hr _) ?_)
  all_goals (go_ret; exact ⟨rfl, rfl⟩)

set_option maxHeartbeats 4000000 in
/-- A new row: there is no room, and the place lies before the end. -/
theorem ins_grow (w : World) (g g2 n cap i m vc : Nat) (cur cur2 : Array Value) (ys : List Value) (hi : i < n) (hm : 0 < m) (hnc : n ≤ cap) (hroom : cap < n + m) (hcap : cap ≤ 9223372036854775807) (hbig : (n + m) * 48 ≤ 140737488355328)
    (hg : w.heap[g]? = some (.cells cur 54 (0, 0))) (hg2 : w.heap[g2]? = some (.cells cur2 54 (0, 0))) (hcs : cur.size = cap * 4) (hyl : ys.length = m * 4)
    (hys : ∀ (j : Nat) (v : Value), ys[j]? = some v → cur2[j]? = some v) (h1x : ∀ v ∈ cur.toList.take (n * 4), v.oneCell' = true) (h1y : ∀ v ∈ ys, v.oneCell' = true) :
    Calls Try.prog 46 #[.slice (some ⟨g, 0, none⟩) n cap, .int .i64 i, .slice (some ⟨g2, 0, none⟩) m vc] w fun e w' =>
      ∃ gc row, e = .returned (.slice (some ⟨w.heap.size, 0, none⟩) (n + m) gc) ∧ n + m ≤ gc ∧ gc ≤ maxLen ∧ row.size = gc * 4 ∧
        row.toList.take ((n + m) * 4) = cur.toList.take (i * 4) ++ ys ++ (cur.toList.take (n * 4)).drop (i * 4) ∧
        w'.heap[w.heap.size]? = some (.cells row 54 (0, 0)) ∧ w.grownBy w' none := by
  have u3 := run_underlying (P := Try.prog) t3; have u4 := run_underlying (P := Try.prog) t4; have u24 := run_underlying (P := Try.prog) t24
  have t3 := t3; have t4 := t4; have t24 := t24; have mixed := mixed
  have a3 := agg3; have a4 := agg4; have a24 := agg24; have z54 := sz54
  have hz1 : ¬ ((m : Int) = 0) := by omega
  have hz2 : ¬ ((i : Int) = (n : Int)) := by omega
  have hw1 : IntKind.i64.wrap ((i : Int) + (m : Int)) = (i : Int) + (m : Int) := by rw [IntKind.wrap_i64]; omega
  have hw2 : IntKind.i64.wrap ((n : Int) + (m : Int)) = (n : Int) + (m : Int) := by rw [IntKind.wrap_i64]; omega
  have hw3 : IntKind.i64.wrap ((n : Int) + (m : Int) - (i : Int)) = ((n + m - i : Nat) : Int) := by rw [IntKind.wrap_i64]; omega
  have hb1 : (0 : Int) ≤ (i : Int) + (m : Int) := by omega
  have hin : i ≤ n := by omega
  have htn : ((i : Int) + (m : Int)).toNat = i + m := by omega
  have hsum : i + (n + m - i) = n + m := by omega
  obtain ⟨inf, hinf, hz, hzs, hzb⟩ : ∃ inf, Try.prog.info? 54 = some inf ∧ inf.zero.isSome = true ∧ inf.size = 4 ∧ inf.bytes = 48 := by
    have h : ((Try.prog.info? 54).map fun i => (i.zero.isSome, i.size, i.bytes)) = some (true, 4, 48) := by kernel_rfl
    cases hq : Try.prog.info? 54 with
    | none => simp [hq] at h
    | some i => simp [hq] at h; exact ⟨i, rfl, h⟩
  obtain ⟨z, hz⟩ := Option.isSome_iff_exists.1 hz
  have hzc : z.cells.size = 4 := by
    have h : ((Try.prog.info? 54).bind fun i => i.zero.map fun z => z.cells.size) = some 4 := by kernel_rfl
    simpa [hinf, hz] using h
  have hs54 : (Try.prog.info? 54).map (·.size) = some 4 := by simp [hinf, hzs]
  have hgd : w.drew.heap[g]? = some (.cells cur 54 (0, 0)) := hg
  have hg2d : w.drew.heap[g2]? = some (.cells cur2 54 (0, 0)) := hg2
  have hold : (Builtin.firstCells inf.size i (.slice (some ⟨g, 0, none⟩) i cap)).run Try.prog w.drew = .ok (cur.toList.take (i * 4)).toArray w.drew := by
    rw [hzs]
    refine run_firstCells_some w.drew 4 i ⟨g, 0, none⟩ i cap _ ?_ ?_
    · rw [List.length_take, Array.length_toList, hcs]; omega
    · intro j v hj
      rw [List.getElem?_take] at hj
      split at hj
      · rw [Addr.add_lit, cell_of_row w.drew _ _ cur 54 (0, 0) hgd]; simpa using hj
      · cases hj
  have hrun := fun ty => run_append_grow_zeros (P := Try.prog) w 24 3 ty 54 inf z .i64 .i64 t24 t3 hinf hz (some ⟨g, 0, none⟩) i cap (cur.toList.take (i * 4)) hold (n + m - i) (by omega) (by omega) (by omega) (by omega)
    (by rw [hzb]; omega) (by rw [hzb, hsum]; exact growslice_fits hroom hbig)
  rw [hsum] at hrun
  have hge := grownCap_ge w (n + m) cap 54
  have hle := grownCap_le_maxLen w (n + m) cap 54 (by simp only [maxLen]; omega)
  generalize grownCap w (n + m) cap 54 = gc at hrun hge hle
  obtain ⟨row1, hrow1⟩ : ∃ row1 : Array Value, row1 = (cur.toList.take (i * 4)).toArray ++ Builtin.zeroCells z.cells (n + m - i) ++ Builtin.zeroCells z.cells (gc - (n + m)) := ⟨_, rfl⟩
  rw [← hrow1] at hrun
  have hzl : ∀ k, (Builtin.zeroCells z.cells k).size = k * 4 := fun k => by rw [size_zeroCells, hzc]
  have hr1s : row1.size = gc * 4 := by
    rw [hrow1]; simp only [Array.size_append, List.size_toArray, List.length_take, Array.length_toList, hzl, hcs]; omega
  have hr1t : row1.toList.take (i * 4) = cur.toList.take (i * 4) := by
    have hl : (cur.toList.take (i * 4)).length = i * 4 := by rw [List.length_take, Array.length_toList, hcs]; omega
    rw [hrow1]
    simp only [Array.toList_append, List.append_assoc]
    rw [List.take_append_of_le_length (by omega), List.take_of_length_le (by omega)]
  obtain ⟨W1, hW1⟩ : ∃ W1, id (W1 = w.drew.alloc (.cells row1 54)) := ⟨_, rfl⟩
  have hW1' : w.drew.alloc (.cells row1 54) = W1 := hW1.symm
  rw [hW1'] at hrun
  have hb1' : Below w.heap.size w W1 := by
    rw [← hW1']
    exact Below.alloc (Below.drew (Below.refl _ w)) (Nat.le_refl _) _
  have hN1 : W1.heap[w.heap.size]? = some (.cells row1 54 (0, 0)) := by
    rw [← hW1']
    exact Array.getElem?_push_size
  have hne : g ≠ w.heap.size := by
    have := (Array.getElem?_eq_some_iff.1 hg).1; omega
  have hne2 : g2 ≠ w.heap.size := by
    have := (Array.getElem?_eq_some_iff.1 hg2).1; omega
  have hg1 : W1.heap[g]? = some (.cells cur 54 (0, 0)) := by
    rw [hb1'.block g (Array.getElem?_eq_some_iff.1 hg).1]; exact hg
  have hg21 : W1.heap[g2]? = some (.cells cur2 54 (0, 0)) := by
    rw [hb1'.block g2 (Array.getElem?_eq_some_iff.1 hg2).1]; exact hg2
  -- the second copy
  obtain ⟨row2, hrow2⟩ : ∃ row2 : Array Value, row2 = (row1.toList.take (i * 4) ++ ys ++ row1.toList.drop (i * 4 + ys.length)).toArray := ⟨_, rfl⟩
  have hcp1 : ∀ ty dc, (Builtin.copy_ #[24, 24] ty #[.slice (some ⟨w.heap.size, i * 4, none⟩) (n + m - i) dc, .slice (some ⟨g2, 0, none⟩) m vc]).run Try.prog W1 = .ok (goInt ((m : Nat) : Int)) (W1.setRow w.heap.size row2) := fun ty dc => by
    have hmin : Nat.min m (n + m - i) = m := by simp only [Nat.min_def]; split <;> omega
    have := run_copy_rowK (P := Try.prog) W1 24 24 ty 54 4 w.heap.size (i * 4) (n + m - i) dc ⟨g2, 0, none⟩ m vc row1 54 ys t24 hs54 hN1
      (by rw [hmin, hyl])
      (fun j v hj => by
        rw [Addr.add_lit, cell_of_row W1 _ _ cur2 54 (0, 0) hg21]
        simpa using hys j v hj)
      (by rw [hyl, hr1s]; omega) h1y
    rw [this, hmin, ← hrow2]
  obtain ⟨W2, hW2⟩ : ∃ W2, id (W2 = W1.setRow w.heap.size row2) := ⟨_, rfl⟩
  have hW2' : W1.setRow w.heap.size row2 = W2 := hW2.symm
  rw [hW2'] at hcp1
  have hb2' : Below w.heap.size w W2 := by rw [← hW2']; exact below_setRow hb1' (Nat.le_refl _) _
  have hN2 : W2.heap[w.heap.size]? = some (.cells row2 54 (0, 0)) := by rw [← hW2']; exact setRow_heap _ _ row1 row2 54 (0, 0) hN1
  have hg2' : W2.heap[g]? = some (.cells cur 54 (0, 0)) := by
    rw [hb2'.block g (Array.getElem?_eq_some_iff.1 hg).1]; exact hg
  have hr2s : row2.size = gc * 4 := by
    rw [hrow2]; simp only [List.size_toArray, List.length_append, List.length_take, List.length_drop, Array.length_toList, hr1s, hyl]; omega
  have hr2t : row2.toList.take ((i + m) * 4) = cur.toList.take (i * 4) ++ ys := by
    have hl : (cur.toList.take (i * 4) ++ ys).length = (i + m) * 4 := by rw [List.length_append, List.length_take, Array.length_toList, hcs, hyl]; omega
    rw [hrow2, hr1t]
    simp only []
    rw [List.take_append_of_le_length (by omega), List.take_of_length_le (by omega)]
  -- the third copy
  obtain ⟨row3, hrow3⟩ : ∃ row3 : Array Value, row3 = (row2.toList.take ((i + m) * 4) ++ (cur.toList.take (n * 4)).drop (i * 4) ++ row2.toList.drop ((i + m) * 4 + ((cur.toList.take (n * 4)).drop (i * 4)).length)).toArray := ⟨_, rfl⟩
  have hlen : ((cur.toList.take (n * 4)).drop (i * 4)).length = (n - i) * 4 := by
    rw [List.length_drop, List.length_take, Array.length_toList, hcs]; omega
  have hcp2 : ∀ ty dc sc, (Builtin.copy_ #[24, 24] ty #[.slice (some ⟨w.heap.size, (i + m) * 4, none⟩) (n + m - (i + m)) dc, .slice (some ⟨g, i * 4, none⟩) (n - i) sc]).run Try.prog W2.drew = .ok (goInt ((n - i : Nat) : Int)) (W2.drew.setRow w.heap.size row3) := fun ty dc sc => by
    have hmin : Nat.min (n - i) (n + m - (i + m)) = n - i := by simp only [Nat.min_def]; split <;> omega
    have hgg : W2.drew.heap[g]? = some (.cells cur 54 (0, 0)) := hg2'
    have := run_copy_rowK (P := Try.prog) W2.drew 24 24 ty 54 4 w.heap.size ((i + m) * 4) (n + m - (i + m)) dc ⟨g, i * 4, none⟩ (n - i) sc row2 54 ((cur.toList.take (n * 4)).drop (i * 4)) t24 hs54 hN2
      (by rw [hmin, hlen])
      (fun j v hj => by
        rw [List.getElem?_drop, List.getElem?_take] at hj
        split at hj
        · rw [Addr.add_lit, cell_of_row W2.drew _ _ cur 54 (0, 0) hgg]; simpa using hj
        · cases hj)
      (by rw [hlen, hr2s]; omega) (fun v hv => h1x v (List.mem_of_mem_drop hv))
    rw [this, hmin, ← hrow3]
  obtain ⟨W3, hW3⟩ : ∃ W3, id (W3 = W2.drew.setRow w.heap.size row3) := ⟨_, rfl⟩
  have hW3' : W2.drew.setRow w.heap.size row3 = W3 := hW3.symm
  rw [hW3'] at hcp2
  have hb3' : Below w.heap.size w W3 := by rw [← hW3']; exact below_setRow (Below.drew hb2') (Nat.le_refl _) _
  have hN3 : W3.heap[w.heap.size]? = some (.cells row3 54 (0, 0)) := by rw [← hW3']; exact setRow_heap _ _ row2 row3 54 (0, 0) hN2
  have hr3s : row3.size = gc * 4 := by
    rw [hrow3]; simp only [List.size_toArray, List.length_append, List.length_take, List.length_drop, Array.length_toList, hr2s, hlen, hcs]; omega
  have hr3t : row3.toList.take ((n + m) * 4) = cur.toList.take (i * 4) ++ ys ++ (cur.toList.take (n * 4)).drop (i * 4) := by
    have hl : (cur.toList.take (i * 4) ++ ys ++ (cur.toList.take (n * 4)).drop (i * 4)).length = (n + m) * 4 := by
      rw [List.length_append, hlen, List.length_append, List.length_take, Array.length_toList, hcs, hyl]; omega
    rw [hrow3, hr2t]
    simp only []
    rw [List.take_append_of_le_length (by omega), List.take_of_length_le (by omega)]
  have hb2 : ¬ (gc = i + m) := by omega
  have hb4 : ¬ (cap = i) := by omega
  have hb5 : ¬ (gc = i) := by omega
  clear hW1 hW1' hW2 hW2' hW3 hW3' hrow1 hrow2 hrow3 hold
  go_enter Try.func46, Try.ntmps46
  go_wp2_with (at_builtin; refine Lib.wpList_append_run _ rfl _ _ _ _ rfl _ _ rfl rfl _ _ (hrun _) ?_)
  go_wp2_with (at_builtin; refine wpList_copyI _ rfl _ _ 24 24 rfl _ _ rfl rfl (hcp1 _ _) ?_)
  go_region_law_o (refine step_copyI rfl _ _ 24 24 rfl _ _ (by simp [Act.eval, Act.put]) (by simp [Act.eval, Act.put]) (hcp2 _ (gc - (i + m)) (cap - i)) ?_)
  go_wp2
  go_ret
  exact ⟨gc, row3, rfl, hge, hle, hr3s, hr3t, hN3, hb3'.os, hb3'.tape, hb3'.output, hb3'.size, fun k hk _ => hb3'.block k hk⟩

theorem callable46 : Callable Try.prog 46 := ⟨Try.f46, by kernel_rfl, by kernel_rfl, by kernel_rfl⟩

theorem ins_ok : InsertOK Try.prog 46 54 4 48 := by
  refine ⟨callable46, ?_⟩
  intro w v n xs g2 m vc cur2 ys i hown hg2 hdiff hyl hys hin hm hby h1x h1y
  obtain ⟨inf, hinf, hz, hzs, hzb⟩ : ∃ inf, Try.prog.info? 54 = some inf ∧ inf.zero.isSome = true ∧ inf.size = 4 ∧ inf.bytes = 48 := by
    have h : ((Try.prog.info? 54).map fun i => (i.zero.isSome, i.size, i.bytes)) = some (true, 4, 48) := by kernel_rfl
    cases hq : Try.prog.info? 54 with
    | none => simp [hq] at h
    | some i => simp [hq] at h; exact ⟨i, rfl, h⟩
  obtain ⟨z, hz⟩ := Option.isSome_iff_exists.1 hz
  have hzc : z.cells.size = inf.size := by
    have h : ((Try.prog.info? 54).bind fun i => i.zero.map fun z => z.cells.size) = some 4 := by kernel_rfl
    rw [hzs]; simpa [hinf, hz] using h
  by_cases hie : i = n
  · subst hie
    have hyv : ((Value.slice (some ⟨g2, 0, none⟩) m vc) = .slice none 0 0 ∧ m = 0) ∨ ∃ a c, (Value.slice (some ⟨g2, 0, none⟩) m vc) = .slice (some a) m c ∧ ∀ j u, ys[j]? = some u → w.cell? (a.add j) = some u :=
      .inr ⟨_, _, rfl, fun j u hj => by rw [Addr.add_lit, cell_of_row w _ _ cur2 54 (0, 0) hg2]; simpa using hys j u hj⟩
    have hown' : w.ownsRow 0 54 inf.size v i xs := by rw [hzs]; exact hown
    obtain ⟨v', w', hr, h2, h3, h4⟩ := run_append_own' (P := Try.prog) (w := w) 24 24 54 inf z t24 hinf hz hzc (by omega) v i xs hown' (.slice (some ⟨g2, 0, none⟩) m vc) m ys (by rw [hzs]; exact hyl) hyv h1y (by omega) (by rw [hzb]; exact hby)
    have hrun : ∀ ty, (Builtin.append_ #[24, 24] ty #[v, .slice (some ⟨g2, 0, none⟩) m vc]).run Try.prog w = .ok v' w' := fun ty => by
      have : Builtin.append_ #[24, 24] ty = Builtin.append_ #[24, 24] 24 := by funext x; simp [Builtin.append_]
      rw [this]; exact hr
    rw [hzs] at h2
    have hlx : xs.take (i * 4) = xs := List.take_of_length_le (by rw [hown.1]; exact Nat.le_refl _)
    have hlx2 : xs.drop (i * 4) = [] := List.drop_of_length_le (by rw [hown.1]; exact Nat.le_refl _)
    rw [hlx, hlx2, List.append_nil]
    rcases hown.2 with ⟨rfl, rfl⟩ | ⟨g, cap, cur, rfl, _, hg, hnc, hcm, hcs, htk⟩
    · refine (ins_end_nil w g2 m vc hm hrun).mono ?_
      rintro x w2 ⟨rfl, rfl⟩
      exact ⟨v', rfl, h2, h3, h4⟩
    · refine (ins_end_row w g g2 i cap m vc hm hnc (by simpa [maxLen] using hcm) hrun).mono ?_
      rintro x w2 ⟨rfl, rfl⟩
      exact ⟨v', rfl, h2, h3, h4⟩
  · have hlt : i < n := by omega
    rcases hown.2 with ⟨rfl, rfl⟩ | ⟨g, cap, cur, rfl, _, hg, hnc, hcm, hcs, htk⟩
    · omega
    have hne : g2 ≠ g := fun he => hdiff (by rw [he]; rfl)
    have hcm' : cap ≤ 9223372036854775807 := by simpa [maxLen] using hcm
    have hxi : xs.take (i * 4) = cur.toList.take (i * 4) := by rw [← htk, List.take_take, Nat.min_eq_left (by omega)]
    by_cases hroom : n + m ≤ cap
    · refine (ins_shift w g g2 n cap i m vc cur cur2 ys hlt hm hroom hcm' hne hg hg2 hcs hyl hys (by rw [htk]; exact h1x) h1y).mono ?_
      rintro x w2 ⟨rfl, c1, hc1, rfl⟩
      have hc1l : c1.size = cap * 4 := by
        rw [hc1]
        simp only [List.size_toArray, List.length_append, List.length_take, List.length_drop, Array.length_toList, hcs]
        omega
      have hgd : w.drew.heap[g]? = some (.cells cur 54 (0, 0)) := hg
      refine ⟨_, rfl, ⟨?_, .inr ⟨g, cap, _, rfl, Nat.zero_le _, setRow_heap _ g cur _ 54 (0, 0) hgd, hroom, hcm, ?_, ?_⟩⟩, ?_, fun k hk => .inl hk⟩
      · have := hown.1
        simp only [List.length_append, List.length_take, List.length_drop, hyl, this]
        omega
      · simp only [List.size_toArray, List.length_append, List.length_take, List.length_drop, Array.length_toList, hc1l, hyl]
        omega
      · have ht1 : c1.toList.take (i * 4) = xs.take (i * 4) := by
          rw [hc1]
          simp only [List.append_assoc]
          rw [List.take_append_of_le_length (by rw [List.length_take, Array.length_toList, hcs]; omega), List.take_take, Nat.min_eq_left (by omega), hxi]
        have ht2 : (c1.toList.drop ((i + m) * 4)).take ((n - i) * 4) = xs.drop (i * 4) := by
          have hl1 : (cur.toList.take ((i + m) * 4)).length = (i + m) * 4 := by rw [List.length_take, Array.length_toList, hcs]; omega
          have hl2 : (xs.drop (i * 4)).length = (n - i) * 4 := by rw [List.length_drop, hown.1]; omega
          rw [hc1]
          simp only [List.append_assoc]
          rw [List.drop_append_of_le_length (by omega), List.drop_of_length_le (by omega), List.nil_append, htk, List.take_append_of_le_length (by omega), List.take_of_length_le (by omega)]
        have hl3 : (xs.take (i * 4) ++ ys).length = (i + m) * 4 := by rw [List.length_append, List.length_take, hown.1, hyl]; omega
        simp only []
        rw [ht1, show (n + m) * 4 = (xs.take (i * 4) ++ ys).length + (n - i) * 4 by rw [hl3]; omega, List.take_length_add_append, ht2]
      · show w.grownBy _ (some g)
        exact Go.Lib.grownBy_trans (w := w.drew) ⟨rfl, rfl, rfl, Nat.le_refl _, fun _ _ _ => rfl⟩ (grownBy_setRow w.drew g _)
    · refine (ins_grow w g g2 n cap i m vc cur cur2 ys hlt hm hnc (by omega) hcm' hby hg hg2 hcs hyl hys (by rw [htk]; exact h1x) h1y).mono ?_
      rintro x w2 ⟨gc, row, rfl, hge, hle, hrs, hrt, hh, hgr⟩
      refine ⟨_, rfl, ⟨?_, .inr ⟨_, gc, row, rfl, Nat.zero_le _, hh, hge, hle, hrs, ?_⟩⟩, ?_, fun k hk => ?_⟩
      · have := hown.1
        simp only [List.length_append, List.length_take, List.length_drop, hyl, this]
        omega
      · rw [hrt, htk, hxi]
      · exact ⟨hgr.os, hgr.tape, hgr.output, hgr.size, fun k hk _ => hgr.block k hk (by simp)⟩
      · simp only [Value.ownBlock, Option.some.injEq] at hk
        exact .inr (by omega)
end Go.Proofs.Ytpkbecaailhhmaa

/-
  Walks at the data level, printed by gen.py: what each Go function returns, for data that reads as said. Conditions: those of each theorem.
-/
namespace Go.Proofs.Ytpkbecaailhhmaa
open Go.DL
set_option maxRecDepth 100000
set_option linter.unusedVariables false
set_option linter.unusedSimpArgs false
theorem ret_hold (h : House) (hb : h.b.length ≤ 140737488355328) (hh : h.h.length ≤ 140737488355328) (hp : ∀ x ∈ h.h, x.ps.length ≤ 140737488355328) (t p : Int) (l : List Pay) (hl : l.length ≤ 140737488355328) : Ret Try.prog 24 [(.agg [(.sl 2 (h.b.map encPay)), (.sl 4 (h.h.map encHold))]), (I t), (I p), (.sl 2 (l.map encPay))] (.tup [(.agg [(.sl 2 ((held h t p l).1.b.map encPay)), (.sl 4 ((held h t p l).1.h.map encHold))]), (I (held h t p l).2)]) := by
  refine Ret.of_T Try.func24 (by kernel_rfl) rfl ?_
  refine T_turn [] [0, 1, 2, 3] [] (mk 83 [(0, (.agg [(.dat (.sl 2 (h.b.map encPay))), (.dat (.sl 4 (h.h.map encHold)))])), (1, (dt (I t))), (2, (dt (I p))), (3, (dt (.sl 2 (l.map encPay))))] []) (by kernel_rfl) ?_
  refine T_reg [] [1, 2, 3, 4, 8] [] (mk 83 [(1, (dt (I t))), (2, (dt (I p))), (3, (dt (.sl 2 (l.map encPay)))), (4, (.one (.ref 4 0))), (8, (.one (.ref 8 0)))] [(8, (.var [(.dat nilS), (.dat nilS)])), (4, (.var [(.dat (.sl 2 (h.b.map encPay))), (.dat (.sl 4 (h.h.map encHold)))]))]) (True ∧ True ∧ True ∧ True ∧ True ∧ True ∧ True) (by kernel_rfl) ⟨trivial, trivial, trivial, trivial, trivial, trivial, trivial⟩ ?_
  refine T_seq ?_
  refine T_reg [{}, { d := some (I (check h)) }] [1, 2, 3, 4, 8, 10] [] (mk 83 [(1, (dt (I t))), (2, (dt (I p))), (3, (dt (.sl 2 (l.map encPay)))), (4, (.one (.ref 4 0))), (8, (.one (.ref 8 0))), (10, (dt (I (check h))))] [(8, (.var [(.dat nilS), (.dat nilS)])), (4, (.var [(.dat (.sl 2 (h.b.map encPay))), (.dat (.sl 4 (h.h.map encHold)))]))]) (True ∧ True ∧ True ∧ (Ret Try.prog 17 [(.agg [(.sl 2 (h.b.map encPay)), (.sl 4 (h.h.map encHold))])] (I (check h))) ∧ True ∧ True ∧ True) (by kernel_rfl) ⟨trivial, trivial, trivial, (ret_check h hb hh hp), trivial, trivial, trivial⟩ ?_
  refine T_reg [] [1, 2, 3, 4, 8, 10, 19] [] (mk 83 [(1, (dt (I t))), (2, (dt (I p))), (3, (dt (.sl 2 (l.map encPay)))), (4, (.one (.ref 4 0))), (8, (.one (.ref 8 0))), (10, (dt (I (check h)))), (19, (dt (B ((check h) != 0))))] [(8, (.var [(.dat nilS), (.dat nilS)])), (4, (.var [(.dat (.sl 2 (h.b.map encPay))), (.dat (.sl 4 (h.h.map encHold)))]))]) (True ∧ True ∧ True ∧ True ∧ True) (by kernel_rfl) ⟨trivial, trivial, trivial, trivial, trivial⟩ ?_
  refine T_cond ((check h) != 0) (by kernel_rfl) (fun h1 => ?_) (fun h1 => ?_)
  · skip
    have g2 : (check h) ≠ 0 := bne_iff_ne.1 (h1)
    refine T_reg [] [8, 9] [4] (mk 83 [(8, (.one (.ref 8 0))), (9, (dt (I (check h))))] [(8, (.var [(.dat nilS), (.dat nilS)]))]) (True ∧ True ∧ True ∧ True ∧ True ∧ True ∧ True ∧ True ∧ True) (by kernel_rfl) ⟨trivial, trivial, trivial, trivial, trivial, trivial, trivial, trivial, trivial⟩ ?_
    refine T_ret ?_
    exact ret_here [(.agg [(.dat nilS), (.dat nilS)]), (dt (I (check h)))] (by kernel_rfl) ⟨⟨(.inr ⟨rfl, 2, (by show D.sl _ _ = _; exact congrArg (fun l => D.sl 2 (l.map encPay)) (by first | (simp_all [held, none0]; done) | (simp_all [held, none0]; repeat (first | omega | rfl | split)) : (held h t p l).1.b = []))⟩), (.inr ⟨rfl, 4, (by show D.sl _ _ = _; exact congrArg (fun l => D.sl 4 (l.map encHold)) (by first | (simp_all [held, none0]; done) | (simp_all [held, none0]; repeat (first | omega | rfl | split)) : (held h t p l).1.h = []))⟩), trivial⟩, (.inl (congrArg I (by first | (simp_all [held, none0]; done) | (simp_all [held, none0]; repeat (first | omega | rfl | split)) : (check h) = (held h t p l).2))), trivial⟩
  · skip
    have g3 : (check h) = 0 := bne_f (h1)
    refine T_skip ?_
    refine T_reg [{}, {}, {}, { d := some (.tup [(I (((bsAt (h.h.map (·.t)) t) : Nat) : Int)), (B (bsMet (h.h.map (·.t)) t))]) }] [1, 2, 3, 4, 8, 11, 12] [] (mk 83 [(1, (dt (I t))), (2, (dt (I p))), (3, (dt (.sl 2 (l.map encPay)))), (4, (.one (.ref 4 0))), (8, (.one (.ref 8 0))), (11, (dt (I (((bsAt (h.h.map (·.t)) t) : Nat) : Int)))), (12, (dt (B (bsMet (h.h.map (·.t)) t))))] [(8, (.var [(.dat nilS), (.dat nilS)])), (4, (.var [(.dat (.sl 2 (h.b.map encPay))), (.dat (.sl 4 (h.h.map encHold)))]))]) (True ∧ True ∧ True ∧ True ∧ True ∧ True ∧ True ∧ (Ret Try.prog 43 [(.sl 4 (h.h.map encHold)), (I t), (.fn 44 [])] (.tup [(I (((bsAt (h.h.map (·.t)) t) : Nat) : Int)), (B (bsMet (h.h.map (·.t)) t))])) ∧ True ∧ True ∧ True ∧ True ∧ True ∧ True ∧ True ∧ True ∧ True ∧ True ∧ True) (by kernel_rfl) ⟨trivial, trivial, trivial, trivial, trivial, trivial, trivial, (ret_findTransfer _ _ (by omega)), trivial, trivial, trivial, trivial, trivial, trivial, trivial, trivial, trivial, trivial, trivial⟩ ?_
    refine T_seq ?_
    rcases Bool.eq_false_or_eq_true (decide (t < 1)) with h4 | h4
    · skip
      have g5 : t < 1 := of_decide_eq_true (h4)
      refine T_reg [{}, {}, {}, { g := false }, { g := false }, { d := some (B true) }, {}, { g := false }, { d := some (B true) }] [1, 2, 3, 4, 8, 11, 37] [] (mk 83 [(1, (dt (I t))), (2, (dt (I p))), (3, (dt (.sl 2 (l.map encPay)))), (4, (.one (.ref 4 0))), (8, (.one (.ref 8 0))), (11, (dt (I (((bsAt (h.h.map (·.t)) t) : Nat) : Int)))), (37, (dt (B true)))] [(8, (.var [(.dat nilS), (.dat nilS)])), (4, (.var [(.dat (.sl 2 (h.b.map encPay))), (.dat (.sl 4 (h.h.map encHold)))]))]) (True ∧ True ∧ True ∧ True ∧ True ∧ True ∧ (((decide (t < 1)) == false) = false) ∧ (((decide (t < 1)) == false) = false) ∧ True ∧ ((decide (t < 1)) = true) ∧ True ∧ True ∧ ((true == false) = false) ∧ True ∧ (true = true) ∧ True) (by kernel_rfl) ⟨trivial, trivial, trivial, trivial, trivial, trivial, (by rw [show (decide (t < 1)) = true from h4]; rfl), (by rw [show (decide (t < 1)) = true from h4]; rfl), trivial, h4, trivial, trivial, (by rw [show true = true from rfl]; rfl), trivial, rfl, trivial⟩ ?_
      refine T_cond true (by kernel_rfl) (fun _ => ?_) (fun h => absurd (h.symm.trans rfl) (by decide))
      refine T_reg [] [8, 9] [4] (mk 83 [(8, (.one (.ref 8 0))), (9, (dt (I 391)))] [(8, (.var [(.dat nilS), (.dat nilS)]))]) (True ∧ True ∧ True ∧ True ∧ True ∧ True ∧ True) (by kernel_rfl) ⟨trivial, trivial, trivial, trivial, trivial, trivial, trivial⟩ ?_
      refine T_ret ?_
      exact ret_here [(.agg [(.dat nilS), (.dat nilS)]), (dt (I 391))] (by kernel_rfl) ⟨⟨(.inr ⟨rfl, 2, (by show D.sl _ _ = _; exact congrArg (fun l => D.sl 2 (l.map encPay)) (by first | (simp_all [held, none0]; done) | (simp_all [held, none0]; repeat (first | omega | rfl | split)) : (held h t p l).1.b = []))⟩), (.inr ⟨rfl, 4, (by show D.sl _ _ = _; exact congrArg (fun l => D.sl 4 (l.map encHold)) (by first | (simp_all [held, none0]; done) | (simp_all [held, none0]; repeat (first | omega | rfl | split)) : (held h t p l).1.h = []))⟩), trivial⟩, (.inl (congrArg I (by first | (simp_all [held, none0]; done) | (simp_all [held, none0]; repeat (first | omega | rfl | split)) : 391 = (held h t p l).2))), trivial⟩
    · skip
      have g6 : ¬ (t < 1) := of_decide_eq_false (h4)
      rcases Bool.eq_false_or_eq_true (decide (t > 4096)) with h7 | h7
      · skip
        have g8 : t > 4096 := of_decide_eq_true (h7)
        refine T_reg [{}, {}, {}, {}, {}, { d := some (B false) }, {}, { g := false }, { d := some (B true) }] [1, 2, 3, 4, 8, 11, 37] [] (mk 83 [(1, (dt (I t))), (2, (dt (I p))), (3, (dt (.sl 2 (l.map encPay)))), (4, (.one (.ref 4 0))), (8, (.one (.ref 8 0))), (11, (dt (I (((bsAt (h.h.map (·.t)) t) : Nat) : Int)))), (37, (dt (B true)))] [(8, (.var [(.dat nilS), (.dat nilS)])), (4, (.var [(.dat (.sl 2 (h.b.map encPay))), (.dat (.sl 4 (h.h.map encHold)))]))]) (True ∧ True ∧ True ∧ True ∧ True ∧ True ∧ (((decide (t < 1)) == false) = true) ∧ True ∧ (((decide (t < 1)) == false) = true) ∧ True ∧ True ∧ ((decide (t < 1)) = false) ∧ True ∧ True ∧ (((decide (t > 4096)) == false) = false) ∧ True ∧ ((decide (t > 4096)) = true) ∧ True) (by kernel_rfl) ⟨trivial, trivial, trivial, trivial, trivial, trivial, (by rw [show (decide (t < 1)) = false from h4]; rfl), trivial, (by rw [show (decide (t < 1)) = false from h4]; rfl), trivial, trivial, h4, trivial, trivial, (by rw [show (decide (t > 4096)) = true from h7]; rfl), trivial, h7, trivial⟩ ?_
        refine T_cond true (by kernel_rfl) (fun _ => ?_) (fun h => absurd (h.symm.trans rfl) (by decide))
        refine T_reg [] [8, 9] [4] (mk 83 [(8, (.one (.ref 8 0))), (9, (dt (I 391)))] [(8, (.var [(.dat nilS), (.dat nilS)]))]) (True ∧ True ∧ True ∧ True ∧ True ∧ True ∧ True) (by kernel_rfl) ⟨trivial, trivial, trivial, trivial, trivial, trivial, trivial⟩ ?_
        refine T_ret ?_
        exact ret_here [(.agg [(.dat nilS), (.dat nilS)]), (dt (I 391))] (by kernel_rfl) ⟨⟨(.inr ⟨rfl, 2, (by show D.sl _ _ = _; exact congrArg (fun l => D.sl 2 (l.map encPay)) (by first | (simp_all [held, none0]; done) | (simp_all [held, none0]; repeat (first | omega | rfl | split)) : (held h t p l).1.b = []))⟩), (.inr ⟨rfl, 4, (by show D.sl _ _ = _; exact congrArg (fun l => D.sl 4 (l.map encHold)) (by first | (simp_all [held, none0]; done) | (simp_all [held, none0]; repeat (first | omega | rfl | split)) : (held h t p l).1.h = []))⟩), trivial⟩, (.inl (congrArg I (by first | (simp_all [held, none0]; done) | (simp_all [held, none0]; repeat (first | omega | rfl | split)) : 391 = (held h t p l).2))), trivial⟩
      · skip
        have g9 : ¬ (t > 4096) := of_decide_eq_false (h7)
        refine T_reg [{}, {}, {}, {}, {}, { d := some (B false) }, {}, {}, { d := some (B false) }] [1, 2, 3, 4, 8, 11, 37] [] (mk 83 [(1, (dt (I t))), (2, (dt (I p))), (3, (dt (.sl 2 (l.map encPay)))), (4, (.one (.ref 4 0))), (8, (.one (.ref 8 0))), (11, (dt (I (((bsAt (h.h.map (·.t)) t) : Nat) : Int)))), (37, (dt (B (bsMet (h.h.map (·.t)) t))))] [(8, (.var [(.dat nilS), (.dat nilS)])), (4, (.var [(.dat (.sl 2 (h.b.map encPay))), (.dat (.sl 4 (h.h.map encHold)))]))]) (True ∧ True ∧ True ∧ True ∧ True ∧ True ∧ (((decide (t < 1)) == false) = true) ∧ True ∧ (((decide (t < 1)) == false) = true) ∧ True ∧ True ∧ ((decide (t < 1)) = false) ∧ True ∧ True ∧ (((decide (t > 4096)) == false) = true) ∧ True ∧ True ∧ ((decide (t > 4096)) = false) ∧ True) (by kernel_rfl) ⟨trivial, trivial, trivial, trivial, trivial, trivial, (by rw [show (decide (t < 1)) = false from h4]; rfl), trivial, (by rw [show (decide (t < 1)) = false from h4]; rfl), trivial, trivial, h4, trivial, trivial, (by rw [show (decide (t > 4096)) = false from h7]; rfl), trivial, trivial, h7, trivial⟩ ?_
        refine T_cond (bsMet (h.h.map (·.t)) t) (by kernel_rfl) (fun h10 => ?_) (fun h10 => ?_)
        · skip
          refine T_reg [] [8, 9] [4] (mk 83 [(8, (.one (.ref 8 0))), (9, (dt (I 391)))] [(8, (.var [(.dat nilS), (.dat nilS)]))]) (True ∧ True ∧ True ∧ True ∧ True ∧ True ∧ True) (by kernel_rfl) ⟨trivial, trivial, trivial, trivial, trivial, trivial, trivial⟩ ?_
          refine T_ret ?_
          exact ret_here [(.agg [(.dat nilS), (.dat nilS)]), (dt (I 391))] (by kernel_rfl) ⟨⟨(.inr ⟨rfl, 2, (by show D.sl _ _ = _; exact congrArg (fun l => D.sl 2 (l.map encPay)) (by first | (simp_all [held, none0]; done) | (simp_all [held, none0]; repeat (first | omega | rfl | split)) : (held h t p l).1.b = []))⟩), (.inr ⟨rfl, 4, (by show D.sl _ _ = _; exact congrArg (fun l => D.sl 4 (l.map encHold)) (by first | (simp_all [held, none0]; done) | (simp_all [held, none0]; repeat (first | omega | rfl | split)) : (held h t p l).1.h = []))⟩), trivial⟩, (.inl (congrArg I (by first | (simp_all [held, none0]; done) | (simp_all [held, none0]; repeat (first | omega | rfl | split)) : 391 = (held h t p l).2))), trivial⟩
        · skip
          refine T_skip ?_
          refine T_seq ?_
          rcases Bool.eq_false_or_eq_true (!(hasB h p)) with h11 | h11
          · skip
            have n12 : (hasB h p) = false := not_t h11
            refine T_reg [{}, {}, { d := some (B (hasB h p)) }, {}, {}, { g := false }, { g := false }, { g := false }, { g := false }, { d := some (B true) }] [1, 2, 3, 4, 8, 11, 48] [] (mk 83 [(1, (dt (I t))), (2, (dt (I p))), (3, (dt (.sl 2 (l.map encPay)))), (4, (.one (.ref 4 0))), (8, (.one (.ref 8 0))), (11, (dt (I (((bsAt (h.h.map (·.t)) t) : Nat) : Int)))), (48, (dt (B true)))] [(8, (.var [(.dat nilS), (.dat nilS)])), (4, (.var [(.dat (.sl 2 (h.b.map encPay))), (.dat (.sl 4 (h.h.map encHold)))]))]) (True ∧ True ∧ True ∧ True ∧ True ∧ (Ret Try.prog 40 [(.agg [(.sl 2 (h.b.map encPay)), (.sl 4 (h.h.map encHold))]), (I p)] (B (hasB h p))) ∧ True ∧ True ∧ True ∧ True ∧ (((!(hasB h p)) == false) = false) ∧ (((!(hasB h p)) == false) = false) ∧ (((!(hasB h p)) == false) = false) ∧ (((!(hasB h p)) == false) = false) ∧ True ∧ ((!(hasB h p)) = true) ∧ True) (by kernel_rfl) ⟨trivial, trivial, trivial, trivial, trivial, (ret_hasAccount h hb _), trivial, trivial, trivial, trivial, (by rw [show (!(hasB h p)) = true from h11]; rfl), (by rw [show (!(hasB h p)) = true from h11]; rfl), (by rw [show (!(hasB h p)) = true from h11]; rfl), (by rw [show (!(hasB h p)) = true from h11]; rfl), trivial, h11, trivial⟩ ?_
            refine T_cond true (by kernel_rfl) (fun _ => ?_) (fun h => absurd (h.symm.trans rfl) (by decide))
            refine T_reg [] [8, 9] [4] (mk 83 [(8, (.one (.ref 8 0))), (9, (dt (I 1)))] [(8, (.var [(.dat nilS), (.dat nilS)]))]) (True ∧ True ∧ True ∧ True ∧ True ∧ True ∧ True) (by kernel_rfl) ⟨trivial, trivial, trivial, trivial, trivial, trivial, trivial⟩ ?_
            refine T_ret ?_
            exact ret_here [(.agg [(.dat nilS), (.dat nilS)]), (dt (I 1))] (by kernel_rfl) ⟨⟨(.inr ⟨rfl, 2, (by show D.sl _ _ = _; exact congrArg (fun l => D.sl 2 (l.map encPay)) (by first | (simp_all [held, none0]; done) | (simp_all [held, none0]; repeat (first | omega | rfl | split)) : (held h t p l).1.b = []))⟩), (.inr ⟨rfl, 4, (by show D.sl _ _ = _; exact congrArg (fun l => D.sl 4 (l.map encHold)) (by first | (simp_all [held, none0]; done) | (simp_all [held, none0]; repeat (first | omega | rfl | split)) : (held h t p l).1.h = []))⟩), trivial⟩, (.inl (congrArg I (by first | (simp_all [held, none0]; done) | (simp_all [held, none0]; repeat (first | omega | rfl | split)) : 1 = (held h t p l).2))), trivial⟩
          · skip
            have n13 : (hasB h p) = true := not_f h11
            refine T_reg [{}, {}, { d := some (B (hasB h p)) }, {}, {}, {}, {}, { d := some (B (paysOK (hasB h) l)) }, {}, { d := some (B false) }] [1, 2, 3, 4, 8, 11, 48] [] (mk 83 [(1, (dt (I t))), (2, (dt (I p))), (3, (dt (.sl 2 (l.map encPay)))), (4, (.one (.ref 4 0))), (8, (.one (.ref 8 0))), (11, (dt (I (((bsAt (h.h.map (·.t)) t) : Nat) : Int)))), (48, (dt (B (!(paysOK (hasB h) l)))))] [(8, (.var [(.dat nilS), (.dat nilS)])), (4, (.var [(.dat (.sl 2 (h.b.map encPay))), (.dat (.sl 4 (h.h.map encHold)))]))]) (True ∧ True ∧ True ∧ True ∧ True ∧ (Ret Try.prog 40 [(.agg [(.sl 2 (h.b.map encPay)), (.sl 4 (h.h.map encHold))]), (I p)] (B (hasB h p))) ∧ True ∧ True ∧ True ∧ True ∧ (((!(hasB h p)) == false) = true) ∧ True ∧ (((!(hasB h p)) == false) = true) ∧ True ∧ (((!(hasB h p)) == false) = true) ∧ (Ret Try.prog 45 [(.agg [(.sl 2 (h.b.map encPay)), (.sl 4 (h.h.map encHold))]), (.sl 2 (l.map encPay))] (B (paysOK (hasB h) l))) ∧ (((!(hasB h p)) == false) = true) ∧ True ∧ True ∧ ((!(hasB h p)) = false) ∧ True) (by kernel_rfl) ⟨trivial, trivial, trivial, trivial, trivial, (ret_hasAccount h hb _), trivial, trivial, trivial, trivial, (by rw [show (!(hasB h p)) = false from h11]; rfl), trivial, (by rw [show (!(hasB h p)) = false from h11]; rfl), trivial, (by rw [show (!(hasB h p)) = false from h11]; rfl), (ret_arePayments h hb _ (by exact hl)), (by rw [show (!(hasB h p)) = false from h11]; rfl), trivial, trivial, h11, trivial⟩ ?_
            refine T_cond (!(paysOK (hasB h) l)) (by kernel_rfl) (fun h14 => ?_) (fun h14 => ?_)
            · skip
              have n15 : (paysOK (hasB h) l) = false := not_t h14
              refine T_reg [] [8, 9] [4] (mk 83 [(8, (.one (.ref 8 0))), (9, (dt (I 1)))] [(8, (.var [(.dat nilS), (.dat nilS)]))]) (True ∧ True ∧ True ∧ True ∧ True ∧ True ∧ True) (by kernel_rfl) ⟨trivial, trivial, trivial, trivial, trivial, trivial, trivial⟩ ?_
              refine T_ret ?_
              exact ret_here [(.agg [(.dat nilS), (.dat nilS)]), (dt (I 1))] (by kernel_rfl) ⟨⟨(.inr ⟨rfl, 2, (by show D.sl _ _ = _; exact congrArg (fun l => D.sl 2 (l.map encPay)) (by first | (simp_all [held, none0]; done) | (simp_all [held, none0]; repeat (first | omega | rfl | split)) : (held h t p l).1.b = []))⟩), (.inr ⟨rfl, 4, (by show D.sl _ _ = _; exact congrArg (fun l => D.sl 4 (l.map encHold)) (by first | (simp_all [held, none0]; done) | (simp_all [held, none0]; repeat (first | omega | rfl | split)) : (held h t p l).1.h = []))⟩), trivial⟩, (.inl (congrArg I (by first | (simp_all [held, none0]; done) | (simp_all [held, none0]; repeat (first | omega | rfl | split)) : 1 = (held h t p l).2))), trivial⟩
            · skip
              have n16 : (paysOK (hasB h) l) = true := not_f h14
              refine T_skip ?_
              refine T_reg [{}, { d := some (I (sumFrom 0 l)) }] [1, 2, 3, 4, 8, 11, 13] [] (mk 83 [(1, (dt (I t))), (2, (dt (I p))), (3, (dt (.sl 2 (l.map encPay)))), (4, (.one (.ref 4 0))), (8, (.one (.ref 8 0))), (11, (dt (I (((bsAt (h.h.map (·.t)) t) : Nat) : Int)))), (13, (dt (I (sumFrom 0 l))))] [(8, (.var [(.dat nilS), (.dat nilS)])), (4, (.var [(.dat (.sl 2 (h.b.map encPay))), (.dat (.sl 4 (h.h.map encHold)))]))]) (True ∧ True ∧ True ∧ (Ret Try.prog 38 [(.sl 2 (l.map encPay))] (I (sumFrom 0 l))) ∧ True ∧ True ∧ True) (by kernel_rfl) ⟨trivial, trivial, trivial, (ret_sum _ (by exact hl)), trivial, trivial, trivial⟩ ?_
              refine T_seq ?_
              refine T_reg [{}, {}, { d := some (.tup [(I (bal p h.b).1), (B (hasR h p))]) }] [1, 2, 3, 4, 8, 11, 13, 14] [] (mk 83 [(1, (dt (I t))), (2, (dt (I p))), (3, (dt (.sl 2 (l.map encPay)))), (4, (.one (.ref 4 0))), (8, (.one (.ref 8 0))), (11, (dt (I (((bsAt (h.h.map (·.t)) t) : Nat) : Int)))), (13, (dt (I (sumFrom 0 l)))), (14, (dt (I (bal p h.b).1)))] [(8, (.var [(.dat nilS), (.dat nilS)])), (4, (.var [(.dat (.sl 2 (h.b.map encPay))), (.dat (.sl 4 (h.h.map encHold)))]))]) (True ∧ True ∧ True ∧ True ∧ True ∧ (Ret Try.prog 14 [(.agg [(.sl 2 (h.b.map encPay)), (.sl 4 (h.h.map encHold))]), (I p)] (.tup [(I (bal p h.b).1), (B (hasR h p))])) ∧ True ∧ True ∧ True ∧ True ∧ True ∧ True ∧ True ∧ True ∧ True ∧ True ∧ True) (by kernel_rfl) ⟨trivial, trivial, trivial, trivial, trivial, (ret_balance h _ hb), trivial, trivial, trivial, trivial, trivial, trivial, trivial, trivial, trivial, trivial, trivial⟩ ?_
              refine T_reg [] [1, 2, 3, 4, 8, 11, 13, 60] [] (mk 83 [(1, (dt (I t))), (2, (dt (I p))), (3, (dt (.sl 2 (l.map encPay)))), (4, (.one (.ref 4 0))), (8, (.one (.ref 8 0))), (11, (dt (I (((bsAt (h.h.map (·.t)) t) : Nat) : Int)))), (13, (dt (I (sumFrom 0 l)))), (60, (dt (B (decide ((bal p h.b).1 < (sumFrom 0 l))))))] [(8, (.var [(.dat nilS), (.dat nilS)])), (4, (.var [(.dat (.sl 2 (h.b.map encPay))), (.dat (.sl 4 (h.h.map encHold)))]))]) (True ∧ True ∧ True ∧ True ∧ True ∧ True ∧ True) (by kernel_rfl) ⟨trivial, trivial, trivial, trivial, trivial, trivial, trivial⟩ ?_
              refine T_cond (decide ((bal p h.b).1 < (sumFrom 0 l))) (by kernel_rfl) (fun h17 => ?_) (fun h17 => ?_)
              · skip
                have g18 : (bal p h.b).1 < (sumFrom 0 l) := of_decide_eq_true (h17)
                refine T_reg [] [8, 9] [4] (mk 83 [(8, (.one (.ref 8 0))), (9, (dt (I 390)))] [(8, (.var [(.dat nilS), (.dat nilS)]))]) (True ∧ True ∧ True ∧ True ∧ True ∧ True ∧ True) (by kernel_rfl) ⟨trivial, trivial, trivial, trivial, trivial, trivial, trivial⟩ ?_
                refine T_ret ?_
                exact ret_here [(.agg [(.dat nilS), (.dat nilS)]), (dt (I 390))] (by kernel_rfl) ⟨⟨(.inr ⟨rfl, 2, (by show D.sl _ _ = _; exact congrArg (fun l => D.sl 2 (l.map encPay)) (by first | (simp_all [held, none0]; done) | (simp_all [held, none0]; repeat (first | omega | rfl | split)) : (held h t p l).1.b = []))⟩), (.inr ⟨rfl, 4, (by show D.sl _ _ = _; exact congrArg (fun l => D.sl 4 (l.map encHold)) (by first | (simp_all [held, none0]; done) | (simp_all [held, none0]; repeat (first | omega | rfl | split)) : (held h t p l).1.h = []))⟩), trivial⟩, (.inl (congrArg I (by first | (simp_all [held, none0]; done) | (simp_all [held, none0]; repeat (first | omega | rfl | split)) : 390 = (held h t p l).2))), trivial⟩
              · skip
                have g19 : ¬ ((bal p h.b).1 < (sumFrom 0 l)) := of_decide_eq_false (h17)
                refine T_skip ?_
                refine T_seq (T_parts ?_)
                refine TL_part 7 [] (mk 83 [(1, (dt (I t))), (2, (dt (I p))), (3, (dt (.sl 2 (l.map encPay)))), (4, (.one (.ref 4 0))), (8, (.one (.ref 8 0))), (11, (dt (I (((bsAt (h.h.map (·.t)) t) : Nat) : Int)))), (13, (dt (I (sumFrom 0 l)))), (60, (dt (B (decide ((bal p h.b).1 < (sumFrom 0 l)))))), (62, (.one (.ref 4 0))), (63, (dt (.sl 2 (h.b.map encPay)))), (64, (dt (I p))), (65, (dt (I (sumFrom 0 l)))), (66, (dt (I (IntKind.i64.wrap (0 - (sumFrom 0 l)))))), (67, (.agg [(.dat (I p)), (.dat (I (IntKind.i64.wrap (0 - (sumFrom 0 l)))))])), (68, (.one (.own 68)))] [(68, (.row 51 2 ([(⟨p, (IntKind.i64.wrap (0 - (sumFrom 0 l)))⟩ : Pay)].map encPay))), (8, (.var [(.dat nilS), (.dat nilS)])), (4, (.var [(.dat (.sl 2 (h.b.map encPay))), (.dat (.sl 4 (h.h.map encHold)))]))]) (True ∧ True ∧ True ∧ True ∧ True ∧ True ∧ True ∧ True ∧ True ∧ True ∧ True ∧ True ∧ True ∧ (dfill (fun i => some (i * 2, 2)) (List.replicate (1 * 2) .junk) [(0, [(.dat (I p)), (.dat (I (IntKind.i64.wrap (0 - (sumFrom 0 l)))))])] = some ((flat ([(⟨p, (IntKind.i64.wrap (0 - (sumFrom 0 l)))⟩ : Pay)].map encPay)).map .dat)) ∧ True) (by kernel_rfl) ⟨trivial, trivial, trivial, trivial, trivial, trivial, trivial, trivial, trivial, trivial, trivial, trivial, trivial, rfl, trivial⟩ rfl ?_
                refine TL_turn [68] [1, 2, 3, 4, 8, 11, 13, 60, 62, 63, 64, 65, 66, 67, 68] [] (mk 83 [(1, (dt (I t))), (2, (dt (I p))), (3, (dt (.sl 2 (l.map encPay)))), (4, (.one (.ref 4 0))), (8, (.one (.ref 8 0))), (11, (dt (I (((bsAt (h.h.map (·.t)) t) : Nat) : Int)))), (13, (dt (I (sumFrom 0 l)))), (60, (dt (B (decide ((bal p h.b).1 < (sumFrom 0 l)))))), (62, (.one (.ref 4 0))), (63, (dt (.sl 2 (h.b.map encPay)))), (64, (dt (I p))), (65, (dt (I (sumFrom 0 l)))), (66, (dt (I (IntKind.i64.wrap (0 - (sumFrom 0 l)))))), (67, (.agg [(.dat (I p)), (.dat (I (IntKind.i64.wrap (0 - (sumFrom 0 l)))))])), (68, (dt (.sl 2 ([(⟨p, (IntKind.i64.wrap (0 - (sumFrom 0 l)))⟩ : Pay)].map encPay))))] [(8, (.var [(.dat nilS), (.dat nilS)])), (4, (.var [(.dat (.sl 2 (h.b.map encPay))), (.dat (.sl 4 (h.h.map encHold)))]))]) (by kernel_rfl) ?_
                refine TL_part 3 [{ d := some (.sl 2 ((cred h.b [(⟨p, (IntKind.i64.wrap (0 - (sumFrom 0 l)))⟩ : Pay)]).map encPay)) }] (mk 83 [(1, (dt (I t))), (2, (dt (I p))), (3, (dt (.sl 2 (l.map encPay)))), (4, (.one (.ref 4 0))), (8, (.one (.ref 8 0))), (11, (dt (I (((bsAt (h.h.map (·.t)) t) : Nat) : Int)))), (13, (dt (I (sumFrom 0 l)))), (60, (dt (B (decide ((bal p h.b).1 < (sumFrom 0 l)))))), (62, (.one (.ref 4 0))), (63, (dt (.sl 2 (h.b.map encPay)))), (64, (dt (I p))), (65, (dt (I (sumFrom 0 l)))), (66, (dt (I (IntKind.i64.wrap (0 - (sumFrom 0 l)))))), (67, (.agg [(.dat (I p)), (.dat (I (IntKind.i64.wrap (0 - (sumFrom 0 l)))))])), (68, (dt (.sl 2 ([(⟨p, (IntKind.i64.wrap (0 - (sumFrom 0 l)))⟩ : Pay)].map encPay)))), (69, (dt (.sl 2 ((cred h.b [(⟨p, (IntKind.i64.wrap (0 - (sumFrom 0 l)))⟩ : Pay)]).map encPay)))), (70, (.one (.ref 4 0)))] [(8, (.var [(.dat nilS), (.dat nilS)])), (4, (.var [(.dat (.sl 2 ((cred h.b [(⟨p, (IntKind.i64.wrap (0 - (sumFrom 0 l)))⟩ : Pay)]).map encPay))), (.dat (.sl 4 (h.h.map encHold)))]))]) (True ∧ (Ret Try.prog 41 [(.sl 2 (h.b.map encPay)), (.sl 2 ([(⟨p, (IntKind.i64.wrap (0 - (sumFrom 0 l)))⟩ : Pay)].map encPay))] (.sl 2 ((cred h.b [(⟨p, (IntKind.i64.wrap (0 - (sumFrom 0 l)))⟩ : Pay)]).map encPay))) ∧ True ∧ True ∧ True ∧ True ∧ True) (by kernel_rfl) ⟨trivial, (ret_credited _ _ (by have := len_of_check (by assumption); omega) (by simp) (ne_of_check (by assumption))), trivial, trivial, trivial, trivial, trivial⟩ rfl ?_
                refine TL_nilQ ?_
                refine T_turn [] [1, 2, 3, 4, 8, 11] [] (mk 83 [(1, (dt (I t))), (2, (dt (I p))), (3, (dt (.sl 2 (l.map encPay)))), (4, (.one (.ref 4 0))), (8, (.one (.ref 8 0))), (11, (dt (I (((bsAt (h.h.map (·.t)) t) : Nat) : Int))))] [(8, (.var [(.dat nilS), (.dat nilS)])), (4, (.var [(.dat (.sl 2 ((cred h.b [(⟨p, (IntKind.i64.wrap (0 - (sumFrom 0 l)))⟩ : Pay)]).map encPay))), (.dat (.sl 4 (h.h.map encHold)))]))]) (by kernel_rfl) ?_
                refine T_seq (T_parts ?_)
                refine TL_part 2 [] (mk 83 [(1, (dt (I t))), (2, (dt (I p))), (3, (dt (.sl 2 (l.map encPay)))), (4, (.one (.ref 4 0))), (8, (.one (.ref 8 0))), (11, (dt (I (((bsAt (h.h.map (·.t)) t) : Nat) : Int)))), (71, (.one (.ref 4 1))), (72, (dt (.sl 4 (h.h.map encHold))))] [(8, (.var [(.dat nilS), (.dat nilS)])), (4, (.var [(.dat (.sl 2 ((cred h.b [(⟨p, (IntKind.i64.wrap (0 - (sumFrom 0 l)))⟩ : Pay)]).map encPay))), (.dat (.sl 4 (h.h.map encHold)))]))]) (True ∧ True ∧ True ∧ True ∧ True) (by kernel_rfl) ⟨trivial, trivial, trivial, trivial, trivial⟩ rfl ?_
                refine TL_inline 83 47 [] Try.f47 _ rfl rfl (by kernel_rfl) Try.func47 rfl rfl (by decide) ?_
                refine T_turn [] [0] [] (mk 8 [(0, (dt (.sl 4 (h.h.map encHold))))] [(8, (.var [(.dat nilS), (.dat nilS)])), (4, (.var [(.dat (.sl 2 ((cred h.b [(⟨p, (IntKind.i64.wrap (0 - (sumFrom 0 l)))⟩ : Pay)]).map encPay))), (.dat (.sl 4 (h.h.map encHold)))]))]) (by kernel_rfl) ?_
                refine T_reg [] [0] [] (mk 8 [(0, (dt (.sl 4 (h.h.map encHold))))] [(8, (.var [(.dat nilS), (.dat nilS)])), (4, (.var [(.dat (.sl 2 ((cred h.b [(⟨p, (IntKind.i64.wrap (0 - (sumFrom 0 l)))⟩ : Pay)]).map encPay))), (.dat (.sl 4 (h.h.map encHold)))]))]) (True ∧ True ∧ True) (by kernel_rfl) ⟨trivial, trivial, trivial⟩ ?_
                refine T_seq ?_
                refine T_seq (T_parts ?_)
                refine TL_part 1 [] (mk 8 [(0, (dt (.sl 4 (h.h.map encHold)))), (3, (dt (.sl 4 (h.h.map encHold))))] [(8, (.var [(.dat nilS), (.dat nilS)])), (4, (.var [(.dat (.sl 2 ((cred h.b [(⟨p, (IntKind.i64.wrap (0 - (sumFrom 0 l)))⟩ : Pay)]).map encPay))), (.dat (.sl 4 (h.h.map encHold)))]))]) (True ∧ True ∧ True) (by kernel_rfl) ⟨trivial, trivial, trivial⟩ rfl ?_
                refine TL_nil (sz := 4) (es := h.h.map encHold) rfl rfl ⟨54, by kernel_rfl⟩ (by kernel_rfl) (fun b20 hb21 => ?_)
                rcases b20 with _ | _
                · skip
                  refine TL_nilQ ?_
                  refine T_turn [] [0, 4] [] (mk 8 [(0, (dt (.sl 4 (h.h.map encHold)))), (4, (dt (B false)))] [(8, (.var [(.dat nilS), (.dat nilS)])), (4, (.var [(.dat (.sl 2 ((cred h.b [(⟨p, (IntKind.i64.wrap (0 - (sumFrom 0 l)))⟩ : Pay)]).map encPay))), (.dat (.sl 4 (h.h.map encHold)))]))]) (by kernel_rfl) ?_
                  refine T_cond false (by kernel_rfl) (fun h => absurd (h.symm.trans rfl) (by decide)) (fun _ => ?_)
                  refine T_skip ?_
                  refine T_reg [{}, {}, { d := some (.sl 4 (h.h.map encHold)) }] [2] [] (mk 8 [(2, (.one (.own 90)))] [(90, (.row 54 4 (h.h.map encHold))), (8, (.var [(.dat nilS), (.dat nilS)])), (4, (.var [(.dat (.sl 2 ((cred h.b [(⟨p, (IntKind.i64.wrap (0 - (sumFrom 0 l)))⟩ : Pay)]).map encPay))), (.dat (.sl 4 (h.h.map encHold)))]))]) (True ∧ (dfill (fun i => some (i * 4, 4)) (List.replicate (0 * 4) .junk) [] = some ((flat (([] : List Hold).map encHold)).map .dat)) ∧ True ∧ True ∧ True ∧ (((([] : List Hold).map encHold).length + (h.h.map encHold).length) * 48 ≤ 140737488355328 ∧ cellsOne (h.h.map encHold) ∧ (([] : List Hold).map encHold) ++ h.h.map encHold = h.h.map encHold) ∧ True ∧ True ∧ True) (by kernel_rfl) ⟨trivial, rfl, trivial, trivial, trivial, ⟨by simp only [List.length_map, List.length_nil, List.length_cons]; (have := len_of_check (by assumption); omega), encHold_one _, by simp⟩, trivial, trivial, trivial⟩ ?_
                  refine T_ret ?_
                  refine ⟨[(.one (.own 90))], by kernel_rfl, ?_⟩
                  refine TL_turn [] [1, 2, 3, 4, 8, 11, 73, 74, 75, 76, 77, 78, 79, 80, 81] [] (mk 83 [(1, (dt (I t))), (2, (dt (I p))), (3, (dt (.sl 2 (l.map encPay)))), (4, (.one (.ref 4 0))), (8, (.one (.ref 8 0))), (11, (dt (I (((bsAt (h.h.map (·.t)) t) : Nat) : Int)))), (73, (.one (.own 90)))] [(90, (.row 54 4 (h.h.map encHold))), (8, (.var [(.dat nilS), (.dat nilS)])), (4, (.var [(.dat (.sl 2 ((cred h.b [(⟨p, (IntKind.i64.wrap (0 - (sumFrom 0 l)))⟩ : Pay)]).map encPay))), (.dat (.sl 4 (h.h.map encHold)))]))]) (by kernel_rfl) ?_
                  refine TL_part 6 [] (mk 83 [(1, (dt (I t))), (2, (dt (I p))), (3, (dt (.sl 2 (l.map encPay)))), (4, (.one (.ref 4 0))), (8, (.one (.ref 8 0))), (11, (dt (I (((bsAt (h.h.map (·.t)) t) : Nat) : Int)))), (73, (.one (.own 90))), (74, (dt (I (((bsAt (h.h.map (·.t)) t) : Nat) : Int)))), (75, (dt (I t))), (76, (dt (I p))), (77, (dt (.sl 2 (l.map encPay)))), (78, (.agg [(.dat (I t)), (.dat (I p)), (.dat (.sl 2 (l.map encPay))), (.dat (I 1))])), (79, (.one (.own 79)))] [(79, (.row 54 4 ([(⟨t, p, l, 1⟩ : Hold)].map encHold))), (90, (.row 54 4 (h.h.map encHold))), (8, (.var [(.dat nilS), (.dat nilS)])), (4, (.var [(.dat (.sl 2 ((cred h.b [(⟨p, (IntKind.i64.wrap (0 - (sumFrom 0 l)))⟩ : Pay)]).map encPay))), (.dat (.sl 4 (h.h.map encHold)))]))]) (True ∧ True ∧ True ∧ True ∧ True ∧ True ∧ True ∧ True ∧ True ∧ True ∧ True ∧ (dfill (fun i => some (i * 4, 4)) (List.replicate (1 * 4) .junk) [(0, [(.dat (I t)), (.dat (I p)), (.dat (.sl 2 (l.map encPay))), (.dat (I 1))])] = some ((flat ([(⟨t, p, l, 1⟩ : Hold)].map encHold)).map .dat)) ∧ True) (by kernel_rfl) ⟨trivial, trivial, trivial, trivial, trivial, trivial, trivial, trivial, trivial, trivial, trivial, rfl, trivial⟩ rfl ?_
                  refine TL_insert 54 4 48 46 ins_ok rfl rfl (by kernel_rfl) (some 90) (h.h.map encHold) (by kernel_rfl) (bsAt (h.h.map (·.t)) t) (((bsAt (h.h.map (·.t)) t) : Nat) : Int) (by kernel_rfl) rfl 79 (by kernel_rfl) ([(⟨t, p, l, 1⟩ : Hold)].map encHold) (by kernel_rfl) (by decide) 80 (by decide) (by simp only [List.length_map, List.length_nil]; first | exact bsAt_le_h _ _ _ | exact bsAt_nil_le (by assumption)) (by simp) (by simp only [List.length_map, List.length_cons, List.length_nil]; (have := len_of_check (by assumption); omega)) (by first | exact encHold_one _ | exact fun _ h => absurd h List.not_mem_nil) (encHold_one _) ((h.h.take (bsAt (h.h.map (·.t)) t) ++ [(⟨t, p, l, 1⟩ : Hold)] ++ h.h.drop (bsAt (h.h.map (·.t)) t)).map encHold) (by simp [List.map_take, List.map_drop]) ?_
                  refine TL_turn [] [4, 8, 80, 81] [79] (mk 83 [(4, (.one (.ref 4 0))), (8, (.one (.ref 8 0))), (80, (.one (.own 80)))] [(80, (.row 54 4 ((h.h.take (bsAt (h.h.map (·.t)) t) ++ [(⟨t, p, l, 1⟩ : Hold)] ++ h.h.drop (bsAt (h.h.map (·.t)) t)).map encHold))), (8, (.var [(.dat nilS), (.dat nilS)])), (4, (.var [(.dat (.sl 2 ((cred h.b [(⟨p, (IntKind.i64.wrap (0 - (sumFrom 0 l)))⟩ : Pay)]).map encPay))), (.dat (.sl 4 (h.h.map encHold)))]))]) (by kernel_rfl) ?_
                  refine TL_part 2 [] (mk 83 [(4, (.one (.ref 4 0))), (8, (.one (.ref 8 0))), (80, (.one (.own 80))), (81, (.one (.ref 4 1)))] [(80, (.row 54 4 ((h.h.take (bsAt (h.h.map (·.t)) t) ++ [(⟨t, p, l, 1⟩ : Hold)] ++ h.h.drop (bsAt (h.h.map (·.t)) t)).map encHold))), (8, (.var [(.dat nilS), (.dat nilS)])), (4, (.var [(.dat (.sl 2 ((cred h.b [(⟨p, (IntKind.i64.wrap (0 - (sumFrom 0 l)))⟩ : Pay)]).map encPay))), (.own 80)]))]) (True ∧ True ∧ True ∧ True ∧ True) (by kernel_rfl) ⟨trivial, trivial, trivial, trivial, trivial⟩ rfl ?_
                  refine TL_nilQ ?_
                  refine T_turn [] [4, 8] [] (mk 83 [(4, (.one (.ref 4 0))), (8, (.one (.ref 8 0)))] [(80, (.row 54 4 ((h.h.take (bsAt (h.h.map (·.t)) t) ++ [(⟨t, p, l, 1⟩ : Hold)] ++ h.h.drop (bsAt (h.h.map (·.t)) t)).map encHold))), (8, (.var [(.dat nilS), (.dat nilS)])), (4, (.var [(.dat (.sl 2 ((cred h.b [(⟨p, (IntKind.i64.wrap (0 - (sumFrom 0 l)))⟩ : Pay)]).map encPay))), (.own 80)]))]) (by kernel_rfl) ?_
                  refine T_reg [] [8, 9] [4] (mk 83 [(8, (.one (.ref 8 0))), (9, (dt (I 0)))] [(80, (.row 54 4 ((h.h.take (bsAt (h.h.map (·.t)) t) ++ [(⟨t, p, l, 1⟩ : Hold)] ++ h.h.drop (bsAt (h.h.map (·.t)) t)).map encHold))), (8, (.var [(.dat (.sl 2 ((cred h.b [(⟨p, (IntKind.i64.wrap (0 - (sumFrom 0 l)))⟩ : Pay)]).map encPay))), (.own 80)]))]) (True ∧ True ∧ True ∧ True ∧ True ∧ True ∧ True) (by kernel_rfl) ⟨trivial, trivial, trivial, trivial, trivial, trivial, trivial⟩ ?_
                  refine T_ret ?_
                  exact ret_here [(.agg [(.dat (.sl 2 ((cred h.b [(⟨p, (IntKind.i64.wrap (0 - (sumFrom 0 l)))⟩ : Pay)]).map encPay))), (.own 80)]), (dt (I 0))] (by kernel_rfl) ⟨⟨(.inl (congrArg (fun l => D.sl 2 (l.map encPay)) (by first | (simp_all [held, none0]; done) | (simp_all [held, none0]; repeat (first | omega | rfl | split)) : (cred h.b [(⟨p, (IntKind.i64.wrap (0 - (sumFrom 0 l)))⟩ : Pay)]) = (held h t p l).1.b))), (by show D.sl 4 ((held h t p l).1.h.map encHold) = D.sl 4 ((h.h.take (bsAt (h.h.map (·.t)) t) ++ [(⟨t, p, l, 1⟩ : Hold)] ++ h.h.drop (bsAt (h.h.map (·.t)) t)).map encHold); exact congrArg (fun l => D.sl 4 (l.map encHold)) (by first | (simp_all [held, none0]; done) | (simp_all [held, none0]; repeat (first | omega | rfl | split)) : (held h t p l).1.h = (h.h.take (bsAt (h.h.map (·.t)) t) ++ [(⟨t, p, l, 1⟩ : Hold)] ++ h.h.drop (bsAt (h.h.map (·.t)) t)))), trivial⟩, (.inl (congrArg I (by first | (simp_all [held, none0]; done) | (simp_all [held, none0]; repeat (first | omega | rfl | split)) : 0 = (held h t p l).2))), trivial⟩
                · skip
                  have nil22 : h.h = [] := by simpa using hb21 rfl
                  refine TL_nilQ ?_
                  refine T_turn [] [0, 4] [] (mk 8 [(0, (dt (.sl 4 (h.h.map encHold)))), (4, (dt (B true)))] [(8, (.var [(.dat nilS), (.dat nilS)])), (4, (.var [(.dat (.sl 2 ((cred h.b [(⟨p, (IntKind.i64.wrap (0 - (sumFrom 0 l)))⟩ : Pay)]).map encPay))), (.dat (.sl 4 (h.h.map encHold)))]))]) (by kernel_rfl) ?_
                  refine T_cond true (by kernel_rfl) (fun _ => ?_) (fun h => absurd (h.symm.trans rfl) (by decide))
                  refine T_reg [] [2] [] (mk 8 [(2, (dt nilS))] [(8, (.var [(.dat nilS), (.dat nilS)])), (4, (.var [(.dat (.sl 2 ((cred h.b [(⟨p, (IntKind.i64.wrap (0 - (sumFrom 0 l)))⟩ : Pay)]).map encPay))), (.dat (.sl 4 (h.h.map encHold)))]))]) (True ∧ True ∧ True) (by kernel_rfl) ⟨trivial, trivial, trivial⟩ ?_
                  refine T_ret ?_
                  refine ⟨[(dt nilS)], by kernel_rfl, ?_⟩
                  refine TL_turn [] [1, 2, 3, 4, 8, 11, 73, 74, 75, 76, 77, 78, 79, 80, 81] [] (mk 83 [(1, (dt (I t))), (2, (dt (I p))), (3, (dt (.sl 2 (l.map encPay)))), (4, (.one (.ref 4 0))), (8, (.one (.ref 8 0))), (11, (dt (I (((bsAt (h.h.map (·.t)) t) : Nat) : Int)))), (73, (dt nilS))] [(8, (.var [(.dat nilS), (.dat nilS)])), (4, (.var [(.dat (.sl 2 ((cred h.b [(⟨p, (IntKind.i64.wrap (0 - (sumFrom 0 l)))⟩ : Pay)]).map encPay))), (.dat (.sl 4 (h.h.map encHold)))]))]) (by kernel_rfl) ?_
                  refine TL_part 6 [] (mk 83 [(1, (dt (I t))), (2, (dt (I p))), (3, (dt (.sl 2 (l.map encPay)))), (4, (.one (.ref 4 0))), (8, (.one (.ref 8 0))), (11, (dt (I (((bsAt (h.h.map (·.t)) t) : Nat) : Int)))), (73, (dt nilS)), (74, (dt (I (((bsAt (h.h.map (·.t)) t) : Nat) : Int)))), (75, (dt (I t))), (76, (dt (I p))), (77, (dt (.sl 2 (l.map encPay)))), (78, (.agg [(.dat (I t)), (.dat (I p)), (.dat (.sl 2 (l.map encPay))), (.dat (I 1))])), (79, (.one (.own 79)))] [(79, (.row 54 4 ([(⟨t, p, l, 1⟩ : Hold)].map encHold))), (8, (.var [(.dat nilS), (.dat nilS)])), (4, (.var [(.dat (.sl 2 ((cred h.b [(⟨p, (IntKind.i64.wrap (0 - (sumFrom 0 l)))⟩ : Pay)]).map encPay))), (.dat (.sl 4 (h.h.map encHold)))]))]) (True ∧ True ∧ True ∧ True ∧ True ∧ True ∧ True ∧ True ∧ True ∧ True ∧ True ∧ (dfill (fun i => some (i * 4, 4)) (List.replicate (1 * 4) .junk) [(0, [(.dat (I t)), (.dat (I p)), (.dat (.sl 2 (l.map encPay))), (.dat (I 1))])] = some ((flat ([(⟨t, p, l, 1⟩ : Hold)].map encHold)).map .dat)) ∧ True) (by kernel_rfl) ⟨trivial, trivial, trivial, trivial, trivial, trivial, trivial, trivial, trivial, trivial, trivial, rfl, trivial⟩ rfl ?_
                  refine TL_insert 54 4 48 46 ins_ok rfl rfl (by kernel_rfl) none [] (by kernel_rfl) (bsAt (h.h.map (·.t)) t) (((bsAt (h.h.map (·.t)) t) : Nat) : Int) (by kernel_rfl) rfl 79 (by kernel_rfl) ([(⟨t, p, l, 1⟩ : Hold)].map encHold) (by kernel_rfl) (by decide) 80 (by decide) (by simp only [List.length_map, List.length_nil]; first | exact bsAt_le_h _ _ _ | exact bsAt_nil_le (by assumption)) (by simp) (by simp only [List.length_map, List.length_cons, List.length_nil]; (have := len_of_check (by assumption); omega)) (by first | exact encHold_one _ | exact fun _ h => absurd h List.not_mem_nil) (encHold_one _) ((([] : List Hold).take (bsAt (h.h.map (·.t)) t) ++ [(⟨t, p, l, 1⟩ : Hold)] ++ ([] : List Hold).drop (bsAt (h.h.map (·.t)) t)).map encHold) (by simp [List.map_take, List.map_drop]) ?_
                  refine TL_turn [] [4, 8, 80, 81] [79] (mk 83 [(4, (.one (.ref 4 0))), (8, (.one (.ref 8 0))), (80, (.one (.own 80)))] [(80, (.row 54 4 ((([] : List Hold).take (bsAt (h.h.map (·.t)) t) ++ [(⟨t, p, l, 1⟩ : Hold)] ++ ([] : List Hold).drop (bsAt (h.h.map (·.t)) t)).map encHold))), (8, (.var [(.dat nilS), (.dat nilS)])), (4, (.var [(.dat (.sl 2 ((cred h.b [(⟨p, (IntKind.i64.wrap (0 - (sumFrom 0 l)))⟩ : Pay)]).map encPay))), (.dat (.sl 4 (h.h.map encHold)))]))]) (by kernel_rfl) ?_
                  refine TL_part 2 [] (mk 83 [(4, (.one (.ref 4 0))), (8, (.one (.ref 8 0))), (80, (.one (.own 80))), (81, (.one (.ref 4 1)))] [(80, (.row 54 4 ((([] : List Hold).take (bsAt (h.h.map (·.t)) t) ++ [(⟨t, p, l, 1⟩ : Hold)] ++ ([] : List Hold).drop (bsAt (h.h.map (·.t)) t)).map encHold))), (8, (.var [(.dat nilS), (.dat nilS)])), (4, (.var [(.dat (.sl 2 ((cred h.b [(⟨p, (IntKind.i64.wrap (0 - (sumFrom 0 l)))⟩ : Pay)]).map encPay))), (.own 80)]))]) (True ∧ True ∧ True ∧ True ∧ True) (by kernel_rfl) ⟨trivial, trivial, trivial, trivial, trivial⟩ rfl ?_
                  refine TL_nilQ ?_
                  refine T_turn [] [4, 8] [] (mk 83 [(4, (.one (.ref 4 0))), (8, (.one (.ref 8 0)))] [(80, (.row 54 4 ((([] : List Hold).take (bsAt (h.h.map (·.t)) t) ++ [(⟨t, p, l, 1⟩ : Hold)] ++ ([] : List Hold).drop (bsAt (h.h.map (·.t)) t)).map encHold))), (8, (.var [(.dat nilS), (.dat nilS)])), (4, (.var [(.dat (.sl 2 ((cred h.b [(⟨p, (IntKind.i64.wrap (0 - (sumFrom 0 l)))⟩ : Pay)]).map encPay))), (.own 80)]))]) (by kernel_rfl) ?_
                  refine T_reg [] [8, 9] [4] (mk 83 [(8, (.one (.ref 8 0))), (9, (dt (I 0)))] [(80, (.row 54 4 ((([] : List Hold).take (bsAt (h.h.map (·.t)) t) ++ [(⟨t, p, l, 1⟩ : Hold)] ++ ([] : List Hold).drop (bsAt (h.h.map (·.t)) t)).map encHold))), (8, (.var [(.dat (.sl 2 ((cred h.b [(⟨p, (IntKind.i64.wrap (0 - (sumFrom 0 l)))⟩ : Pay)]).map encPay))), (.own 80)]))]) (True ∧ True ∧ True ∧ True ∧ True ∧ True ∧ True) (by kernel_rfl) ⟨trivial, trivial, trivial, trivial, trivial, trivial, trivial⟩ ?_
                  refine T_ret ?_
                  exact ret_here [(.agg [(.dat (.sl 2 ((cred h.b [(⟨p, (IntKind.i64.wrap (0 - (sumFrom 0 l)))⟩ : Pay)]).map encPay))), (.own 80)]), (dt (I 0))] (by kernel_rfl) ⟨⟨(.inl (congrArg (fun l => D.sl 2 (l.map encPay)) (by first | (simp_all [held, none0]; done) | (simp_all [held, none0]; repeat (first | omega | rfl | split)) : (cred h.b [(⟨p, (IntKind.i64.wrap (0 - (sumFrom 0 l)))⟩ : Pay)]) = (held h t p l).1.b))), (by show D.sl 4 ((held h t p l).1.h.map encHold) = D.sl 4 ((([] : List Hold).take (bsAt (h.h.map (·.t)) t) ++ [(⟨t, p, l, 1⟩ : Hold)] ++ ([] : List Hold).drop (bsAt (h.h.map (·.t)) t)).map encHold); exact congrArg (fun l => D.sl 4 (l.map encHold)) (by first | (simp_all [held, none0]; done) | (simp_all [held, none0]; repeat (first | omega | rfl | split)) : (held h t p l).1.h = (([] : List Hold).take (bsAt (h.h.map (·.t)) t) ++ [(⟨t, p, l, 1⟩ : Hold)] ++ ([] : List Hold).drop (bsAt (h.h.map (·.t)) t)))), trivial⟩, (.inl (congrArg I (by first | (simp_all [held, none0]; done) | (simp_all [held, none0]; repeat (first | omega | rfl | split)) : 0 = (held h t p l).2))), trivial⟩

end Go.Proofs.Ytpkbecaailhhmaa

/-
  The plain functions of chapter 39, third part: steps and runs; how long their data are.
-/
set_option linter.unusedVariables false
set_option linter.unusedSimpArgs false
namespace Go.Proofs.Ytpkbecaailhhmaa
open Go.DL
def Fits (h : House) : Prop := h.b.length ≤ 140737488355328 ∧ h.h.length ≤ 140737488355328 ∧ ∀ x ∈ h.h, x.ps.length ≤ 140737488355328
def stepOf (h : House) (s : Step) : House × Int :=
  if s.k = 0 then paid h s.c s.a else if s.k = 1 then held h s.t s.c s.ps else settled h s.t s.pd
def runFrom (h : House) : List Step → House
  | [] => h
  | s :: l => runFrom (if (stepOf h s).2 = 0 then (stepOf h s).1 else h) l
def runOf (cl : List Int) (l : List Step) : House × Bool :=
  if newE cl ≠ 0 then (none0, false) else (runFrom ⟨newB cl, []⟩ l, true)
def balancesOf (l : List Step) (a b : Int) : Bool :=
  (runOf [3, 5] l).2 && ((bal 3 (runOf [3, 5] l).1.b).1 == a) && ((bal 5 (runOf [3, 5] l).1.b).1 == b) && (bal 3 (runOf [3, 5] l).1.b).2 && (bal 5 (runOf [3, 5] l).1.b).2

theorem give_len (m : List Pay) (p : Pay) : (give m p).length = m.length := by
  unfold give; split <;> (try split) <;> simp
theorem cred_len (m ps : List Pay) : (cred m ps).length = m.length := by
  induction ps generalizing m with
  | nil => rfl
  | cons p ps ih => rw [cred, ih, give_len]
theorem fits_none : Fits none0 := ⟨by simp [none0], by simp [none0], by simp [none0]⟩
theorem fits_newB {cl : List Int} (h : cl.length ≤ 140737488355328) : Fits ⟨newB cl, []⟩ := by
  refine ⟨?_, by simp, by simp⟩
  unfold newB; split
  · simpa using h
  · simp
theorem fits_paid {h : House} (f : Fits h) (c a : Int) : Fits (paid h c a).1 := by
  unfold paid
  repeat (first | exact fits_none | exact ⟨by rw [cred_len]; exact f.1, f.2.1, f.2.2⟩ | split)
theorem fits_held {h : House} (f : Fits h) {l : List Pay} (hl : l.length ≤ 140737488355328) (t p : Int) : Fits (held h t p l).1 := by
  unfold held
  split
  · exact fits_none
  · rename_i hc
    have hc' : check h = 0 := by simpa using hc
    have := len_of_check hc'
    split
    · exact fits_none
    · split
      · exact fits_none
      · split
        · exact fits_none
        · refine ⟨by rw [cred_len]; exact f.1, by simp only [List.length_append, List.length_take, List.length_drop, List.length_cons, List.length_nil]; omega, fun x hx => ?_⟩
          simp only [List.mem_append, List.mem_singleton] at hx
          rcases hx with (hx | hx) | hx
          · exact f.2.2 x (List.mem_of_mem_take hx)
          · subst hx; exact hl
          · exact f.2.2 x (List.mem_of_mem_drop hx)
theorem fits_settled {h : House} (f : Fits h) (t : Int) (pd : Bool) : Fits (settled h t pd).1 := by
  unfold settled
  split
  · exact fits_none
  · split
    · exact fits_none
    · split
      · exact fits_none
      · rename_i x hx
        have hm := List.mem_of_getElem? hx
        split
        · exact fits_none
        · split
          all_goals
            refine ⟨by rw [cred_len]; exact f.1, by rw [List.length_set]; exact f.2.1, fun y hy => ?_⟩
            rcases List.mem_or_eq_of_mem_set hy with hy | hy
            · exact f.2.2 y hy
            · subst hy; exact f.2.2 x hm
theorem fits_step {h : House} (f : Fits h) {s : Step} (hs : s.ps.length ≤ 140737488355328) : Fits (stepOf h s).1 := by
  unfold stepOf
  split
  · exact fits_paid f _ _
  · split
    · exact fits_held f hs _ _
    · exact fits_settled f _ _
theorem fits_if {h x : House} (f : Fits h) (g : Fits x) (p : Prop) [Decidable p] : Fits (if p then x else h) := by split <;> assumption
theorem fits_runFrom {l : List Step} (hl : ∀ s ∈ l, s.ps.length ≤ 140737488355328) : ∀ {h : House}, Fits h → Fits (runFrom h l) := by
  induction l with
  | nil => exact fun f => f
  | cons s l ih =>
    intro h f
    exact ih (fun s hs => hl s (List.mem_cons_of_mem _ hs)) (fits_if f (fits_step f (hl s List.mem_cons_self)) _)
theorem fits_runOf {cl : List Int} {l : List Step} (hc : cl.length ≤ 140737488355328) (hl : ∀ s ∈ l, s.ps.length ≤ 140737488355328) : Fits (runOf cl l).1 := by
  unfold runOf
  split
  · exact fits_none
  · exact fits_runFrom hl (fits_newB hc)
theorem run_step_ok {h : House} {s : Step} {l : List Step} {r : House} {k : Nat} (iv : runFrom h (l.drop k) = r) (hs : l[k]? = some s) (e : (stepOf h s).2 = 0) : runFrom (stepOf h s).1 (l.drop (k + 1)) = r := by
  rw [← iv, drop_cons hs, runFrom, if_pos e]
theorem run_step_no {h : House} {s : Step} {l : List Step} {r : House} {k : Nat} (iv : runFrom h (l.drop k) = r) (hs : l[k]? = some s) (e : (stepOf h s).2 ≠ 0) : runFrom h (l.drop (k + 1)) = r := by
  rw [← iv, drop_cons hs, runFrom, if_neg e]
end Go.Proofs.Ytpkbecaailhhmaa

/-
  The data-level framework, part w: nil slices read as empty data: in a state, and as a call's arguments. Generic in the program; no condition.
-/
set_option linter.unusedVariables false
set_option linter.unusedSimpArgs false
namespace Go.DL
open Go.RowKit

def C.unnil (sz : Nat) : C → C
  | .dat (.con (.slice none 0 0)) => .dat (.sl sz [])
  | c => c
def LV.unnil (j sz : Nat) : LV → LV
  | .one c => .one (c.unnil sz)
  | .agg cs => .agg (cs.modify j (C.unnil sz))
  | l => l
def DS.unnil (t j sz : Nat) (s : DS) : DS := { s with sl := s.sl.modify t (LV.unnil j sz) }

theorem nil_sl {w : World} {A : Nat → Prop} {v : Value} (sz : Nat) (h : RelD w A (.con (.slice none 0 0)) v) : RelD w A (.sl sz []) v := by
  cases h; exact .sl0 sz none 0 (fun _ => rfl)

section
variable {P : Program} {w : World} {A : Nat → Prop} {M : BMap} {base : Nat} {Q : DX → DS → Prop} {s : DS}

theorem C.unnil_rel {sz : Nat} {c : C} {v : Value} (h : C.rel w A M c v) : C.rel w A M (c.unnil sz) v := by
  unfold C.unnil
  split
  · exact nil_sl sz h
  · exact h

theorem LV.unnil_rel {j sz : Nat} {l : LV} {v : Value} (h : LV.rel w A M l v) : LV.rel w A M (l.unnil j sz) v := by
  unfold LV.unnil
  split
  · exact C.unnil_rel h
  · obtain ⟨arr, h1, h2, h3⟩ := h
    refine ⟨arr, h1, by simp [h2], fun k c hk => ?_⟩
    rw [List.getElem?_modify] at hk
    simp only [Option.map_eq_map, Option.map_eq_some_iff] at hk
    obtain ⟨c', hc', rfl⟩ := hk
    obtain ⟨u, hu, hr⟩ := h3 k c' hc'
    refine ⟨u, hu, ?_⟩
    split
    · exact C.unnil_rel hr
    · exact hr
  · exact h

theorem DS.le_unnil (s : DS) (t j sz : Nat) : s.Le (s.unnil t j sz) := by
  intro E M w a h
  refine ⟨M, h.defers, by simp [DS.unnil, h.size], fun k l hk => ?_, h.boxes⟩
  simp only [DS.unnil, List.getElem?_modify, Option.map_eq_map, Option.map_eq_some_iff] at hk
  obtain ⟨l', hl', rfl⟩ := hk
  have := h.slots k l' hl'
  simp only [DS.unnil]
  split
  · exact LV.unnil_rel this
  · exact this

theorem TL_unnil {ops : Array Oper} {l : List Oper} (t j sz : Nat) (s' : DS) (h : s.unnil t j sz = s') (hq : TL P base ops l Q s') : TL P base ops l Q s := TL_le ((DS.le_unnil s t j sz).trans (DS.le_of_eq h)) hq

/-- Whatever reads as d' reads as d. -/
def Weak (d d' : D) : Prop := ∀ (w : World) (A : Nat → Prop) (v : Value), RelD w A d' v → RelD w A d v
theorem Weak.refl (d : D) : Weak d d := fun _ _ _ h => h
theorem Weak.nil (sz : Nat) : Weak (.sl sz []) (.con (.slice none 0 0)) := fun _ _ _ h => nil_sl sz h
def AllWeak : List D → List D → Prop
  | [], [] => True
  | d :: ds, d' :: ds' => Weak d d' ∧ AllWeak ds ds'
  | _, _ => False
theorem AllWeak.length : ∀ {ds ds' : List D}, AllWeak ds ds' → ds.length = ds'.length
  | [], [], _ => rfl
  | _ :: _, _ :: _, h => by simp [AllWeak.length h.2]
  | [], _ :: _, h => h.elim
  | _ :: _, [], h => h.elim
theorem AllWeak.get : ∀ {ds ds' : List D}, AllWeak ds ds' → ∀ (j : Nat) (d : D), ds[j]? = some d → ∃ d', ds'[j]? = some d' ∧ Weak d d'
  | _ :: _, d' :: _, h, 0, d, hj => by simp at hj; subst hj; exact ⟨d', rfl, h.1⟩
  | _ :: ds, _ :: ds', h, j + 1, d, hj => by simpa using AllWeak.get h.2 j d (by simpa using hj)
  | [], [], _, _, _, hj => by simp at hj
  | [], _ :: _, h, _, _, _ => h.elim
  | _ :: _, [], h, _, _, _ => h.elim
theorem Weak.agg {ds ds' : List D} (h : AllWeak ds ds') : Weak (.agg ds) (.agg ds') := by
  intro w A v hr
  cases hr with
  | agg _ arr hs vs hv hrel =>
    refine .agg ds arr (by rw [hs, h.length]) vs (fun j c hj => ?_) (fun j c hj => ?_)
    · obtain ⟨d', hd', _⟩ := h.get j c hj; exact hv j d' hd'
    · obtain ⟨d', hd', hw⟩ := h.get j c hj; exact hw _ _ _ (hrel j d' hd')
theorem Ret.weak {f : FuncId} {ds ds' : List D} {d : D} (hr : Ret P f ds d) (h : AllWeak ds ds') : Ret P f ds' d := by
  refine ⟨hr.1, fun w A vs hA hs hv => hr.2 w A vs hA (by rw [hs, h.length]) fun j c hj => ?_⟩
  obtain ⟨d', hd', hw⟩ := h.get j c hj
  obtain ⟨u, hu, hrel⟩ := hv j d' hd'
  exact ⟨u, hu, hw _ _ _ hrel⟩
end
end Go.DL

/-
  The data-level framework, part x: regions that draw their order and hold one allocation and one store into what it made. Generic in the program; no condition.
-/
set_option linter.unusedVariables false
set_option linter.unusedSimpArgs false
namespace Go.DL
open Go.RowKit

/-- The operations that only make values, and two others: one that makes a box, and one that stores into it. -/
def pexecS (P : Program) (ops : Array Oper) (m m2 : Nat) (lv0 : LV) : List Oper → List Hint → Nat → DS → Option (Prop × List LV × DS)
  | [], _, _, s => some (True, [], s)
  | o :: os, hs, k, s =>
    match k == m || k == m2 with
    | true => match pexecS P ops m m2 lv0 os hs.tail (k + 1) (s.put o.dst lv0) with
      | some (q, vs, s') => some (q, lv0 :: vs, s')
      | none => none
    | false => match wantB ops o s (hs.headD {}).g with
      | none => none
      | some (p, false) => match pexecS P ops m m2 lv0 os hs.tail (k + 1) (s.put o.dst UD) with
        | some (q, vs, s') => some (p ∧ q, UD :: vs, s')
        | none => none
      | some (p, true) => match pval P s.ev s.bx (hs.headD {}).d o with
        | none => none
        | some (r, lv) => match pexecS P ops m m2 lv0 os hs.tail (k + 1) (s.put o.dst lv) with
          | some (q, vs, s') => some (p ∧ r ∧ q, lv :: vs, s')
          | none => none


/-- What a list of results makes of the slots. -/
def putAll : List Oper → List LV → DS → DS
  | o :: os, v :: vs, s => putAll os vs (s.put o.dst v)
  | _, _, s => s
theorem putAll_snoc : ∀ (l : List Oper) (vs : List LV) (s : DS) (i : Nat) (o : Oper) (v : LV), l[i]? = some o → vs[i]? = some v → putAll (l.take (i + 1)) (vs.take (i + 1)) s = (putAll (l.take i) (vs.take i) s).put o.dst v
  | o' :: l, v' :: vs, s, 0, o, v, h1, h2 => by simp at h1 h2; subst h1; subst h2; simp [putAll]
  | o' :: l, v' :: vs, s, i + 1, o, v, h1, h2 => by
    simp only [List.take_succ_cons, putAll]
    exact putAll_snoc l vs _ i o v (by simpa using h1) (by simpa using h2)
  | [], _, _, _, _, _, h1, _ => by simp at h1
  | _ :: _, [], _, _, _, _, _, h2 => by simp at h2
theorem putAll_st {l : List Oper} {vs : List LV} {st : Nat → DS} : ∀ i, (∀ j, j < i → ∃ o v, l[j]? = some o ∧ vs[j]? = some v ∧ st (j + 1) = (st j).put o.dst v) → putAll (l.take i) (vs.take i) (st 0) = st i
  | 0, _ => by simp [putAll]
  | i + 1, h => by
    obtain ⟨o, v, h1, h2, h3⟩ := h i (by omega)
    rw [putAll_snoc l vs _ i o v h1 h2, putAll_st i (fun j hj => h j (by omega)), h3]
theorem eStore_bx {P : Program} {s s2 s' : DS} {T : TypeId} {x y : LV} {q : Prop} (hb : s2.bx = s.bx) (h : eStore P s T x y none = some (q, s')) : eStore P s2 T x y none = some (q, ⟨s2.sl, s'.bx⟩) := by
  unfold eStore at h ⊢
  rw [hb]
  cases hi : P.info? T with
  | none => simp [hi] at h
  | some i =>
    cases hc : y.cs s.bx with
    | none => simp [hi, hc] at h
    | some cs =>
      simp only [hi, hc] at h ⊢
      cases hf : (cs.length == i.size && cs.all (C.fit s.bx)) with
      | false => simp [hf] at h
      | true =>
        simp only [hf] at h ⊢
        split at h
        · rename_i id off
          cases hl : s.bx.lookup id with
          | none => simp [hl] at h
          | some bb =>
            cases bb with
            | row e sz es => simp [hl] at h
            | map Q k e m => simp [hl] at h
            | var cs0 =>
              simp only [hl] at h ⊢
              cases hle : Nat.ble (off + cs.length) cs0.length with
              | false => simp [hle] at h
              | true =>
                simp only [hle, Option.some.injEq, Prod.mk.injEq] at h ⊢
                obtain ⟨h3, h4⟩ := h
                refine ⟨h3, ?_⟩
                rw [← h4]
                simp [DS.setBox, hb]
        · simp at h
        · cases h

section
variable {P : Program} {w : World} {A : Nat → Prop} {M : BMap}

theorem pexecS_steps {ops : Array Oper} {m m2 : Nat} {lv0 : LV} : ∀ (l : List Oper) (hs : List Hint) (k : Nat) (s s' : DS) (vs : List LV) (side : Prop), pexecS P ops m m2 lv0 l hs k s = some (side, vs, s') → side →
    vs.length = l.length ∧ ∃ (st : Nat → DS), st 0 = s ∧ st l.length = s' ∧ ∀ i o, l[i]? = some o → ∃ v, vs[i]? = some v ∧ st (i + 1) = (st i).put o.dst v ∧ (k + i = m ∨ k + i = m2 → v = lv0) ∧ (¬ (k + i = m ∨ k + i = m2) → Good P ops (st i) o v)
  | [], hs, k, s, s', vs, side, h, _ => by
    simp only [pexecS, Option.some.injEq, Prod.mk.injEq] at h
    obtain ⟨_, rfl, rfl⟩ := h
    exact ⟨rfl, fun _ => s, rfl, rfl, fun i o hi => by simp at hi⟩
  | o :: os, hs, k, s, s', vs, side, h, hside => by
    unfold pexecS at h
    have cons : ∀ (v0 : LV) (q : Prop) (ws : List LV), pexecS P ops m m2 lv0 os hs.tail (k + 1) (s.put o.dst v0) = some (q, ws, s') → q → (k = m ∨ k = m2 → v0 = lv0) → (¬ (k = m ∨ k = m2) → Good P ops s o v0) →
        (v0 :: ws).length = (o :: os).length ∧ ∃ (st : Nat → DS), st 0 = s ∧ st (o :: os).length = s' ∧ ∀ i o', (o :: os)[i]? = some o' → ∃ v, (v0 :: ws)[i]? = some v ∧ st (i + 1) = (st i).put o'.dst v ∧ (k + i = m ∨ k + i = m2 → v = lv0) ∧ (¬ (k + i = m ∨ k + i = m2) → Good P ops (st i) o' v) := by
      intro v0 q ws hq hqs hm hg
      obtain ⟨hl, st, h1, h2, h3⟩ := pexecS_steps os hs.tail (k + 1) _ s' ws q hq hqs
      refine ⟨by simp [hl], fun i => match i with | 0 => s | i + 1 => st i, rfl, h2, fun i o' hi => ?_⟩
      cases i with
      | zero => simp at hi; subst hi; exact ⟨v0, rfl, h1, fun e => hm (by omega), fun e => hg (by omega)⟩
      | succ i =>
        obtain ⟨v, g1, g2, g3, g4⟩ := h3 i o' (by simpa using hi)
        exact ⟨v, by simpa using g1, g2, fun e => g3 (by omega), fun e => g4 (by omega)⟩
    split at h
    · rename_i hk
      have hk' : k = m ∨ k = m2 := by simpa using hk
      split at h
      · rename_i q ws s2 h2
        simp only [Option.some.injEq, Prod.mk.injEq] at h
        obtain ⟨h1, rfl, rfl⟩ := h
        rw [← h1] at hside
        exact cons _ q ws h2 hside (fun _ => rfl) (fun e => absurd hk' e)
      · cases h
    · rename_i hk
      have hk' : ¬ (k = m ∨ k = m2) := by simpa using hk
      split at h
      · cases h
      · rename_i p hw
        split at h
        · rename_i q ws s2 h2
          simp only [Option.some.injEq, Prod.mk.injEq] at h
          obtain ⟨h1, rfl, rfl⟩ := h
          rw [← h1] at hside
          exact cons _ q ws h2 hside.2 (fun e => absurd e hk') fun _ => ⟨_, p, false, hw, hside.1, .inl ⟨rfl, rfl⟩⟩
        · cases h
      · rename_i p hw
        split at h
        · cases h
        · rename_i r lv h3
          split at h
          · rename_i q ws s2 h2
            simp only [Option.some.injEq, Prod.mk.injEq] at h
            obtain ⟨h1, rfl, rfl⟩ := h
            rw [← h1] at hside
            exact cons _ q ws h2 hside.2.2 (fun e => absurd e hk') fun _ => ⟨_, p, true, hw, hside.1, .inr ⟨rfl, _, r, h3, hside.2.1⟩⟩
          · cases h


def dexecDrawS (P : Program) (base : Nat) (l : List Oper) (n m m2 d : Nat) (t T0 : TypeId) (x0 y0 : Operand) (hs : List Hint) (s : DS) : Option (Prop × List LV × List LV × List LV × DS) :=
  match zeroC P t with
  | none => none
  | some cs => match pexecS P l.toArray m m2 (.one (.ref (base + d) 0)) (l.take n) hs 0 (s.drop (base + d)) with
    | none => none
    | some (p, vs, _) => match eStore P (putAll (l.take m2) (vs.take m2) ((s.drop (base + d)).push (base + d) (.var cs))) T0 ((putAll (l.take m2) (vs.take m2) ((s.drop (base + d)).push (base + d) (.var cs))).ev x0) ((putAll (l.take m2) (vs.take m2) ((s.drop (base + d)).push (base + d) (.var cs))).ev y0) none with
      | none => none
      | some (qS, sS) => match pexecS P l.toArray m m2 (.one (.ref (base + d) 0)) (l.take n) hs 0 ((s.drop (base + d)).push (base + d) (.var cs)) with
        | none => none
        | some (p', vs', _) => match pexecS P l.toArray m m2 (.one (.ref (base + d) 0)) (l.take n) hs 0 ⟨(s.drop (base + d)).sl, sS.bx⟩ with
          | none => none
          | some (p'', vs'', s1) => match dexec P base l.toArray (l.drop n) (hs.drop n) s1 with
            | none => none
            | some (q, s2) => some (p ∧ p' ∧ p'' ∧ qS ∧ q, vs, vs', vs'', s2)

theorem T_drawS {base rid : Nat} {l : List Oper} {Q : DX → DS → Prop} {s : DS} (n m m2 d : Nat) (t0 T0 : TypeId) (x0 y0 : Operand) (hs : List Hint) (s' : DS) (side : Prop) (hm : P.follows .mixedOrders = true) (hok : drawOk l.toArray n = true)
    (hmn : Nat.blt m2 n = true) (hmm : Region.waitsFor .any l.toArray m2 m = true) (hlt0 : Nat.blt m m2 = true) (hop : (l[m]?).map (fun o => (o.op, o.dst, o.guard)) = some (.alloc t0, some d, none)) (hop2 : (l[m2]?).map (fun o => (o.op, o.dst, o.guard)) = some (.store T0 x0 y0, none, none))
    (h : (dexecDrawS P base l n m m2 d t0 T0 x0 y0 hs s).map (fun r => (r.1, r.2.2.2.2)) = some (side, s'))
    (hv : (dexecDrawS P base l n m m2 d t0 T0 x0 y0 hs s).map (fun r => (r.2.1, r.2.1, fixVals l.toArray m (base + d) 0 r.2.1)) = (dexecDrawS P base l n m m2 d t0 T0 x0 y0 hs s).map (fun r => (r.2.2.1, r.2.2.2.1, r.2.1)))
    (hside : side) (hq : Q .normal s') : T P base (.region rid l.toArray true) Q s := by
  intro E M00 w0 a0 hbase hst00
  obtain ⟨M0, hst0⟩ := DS.le_drop s (base + d) E M00 w0 a0 hst00
  generalize hid : base + d = id at *
  unfold dexecDrawS at h hv
  rw [hid] at h hv
  cases hz : zeroC P t0 with
  | none => rw [hz] at h; cases h
  | some cs =>
  simp only [hz] at h hv
  cases h1 : pexecS P l.toArray m m2 (.one (.ref id 0)) (l.take n) hs 0 (s.drop id) with
  | none => rw [h1] at h; cases h
  | some r1 =>
  obtain ⟨p, vs, s1F⟩ := r1
  simp only [h1] at h hv
  generalize hsm : putAll (l.take m2) (vs.take m2) ((s.drop id).push id (.var cs)) = sm at h hv
  cases hst : eStore P sm T0 (sm.ev x0) (sm.ev y0) none with
  | none => rw [hst] at h; cases h
  | some rS =>
  obtain ⟨qS, sS⟩ := rS
  simp only [hst] at h hv
  cases h2 : pexecS P l.toArray m m2 (.one (.ref id 0)) (l.take n) hs 0 ((s.drop id).push id (.var cs)) with
  | none => rw [h2] at h; cases h
  | some r2 =>
  obtain ⟨p', vs', s1T⟩ := r2
  simp only [h2] at h hv
  cases h2' : pexecS P l.toArray m m2 (.one (.ref id 0)) (l.take n) hs 0 ⟨(s.drop id).sl, sS.bx⟩ with
  | none => rw [h2'] at h; cases h
  | some r2' =>
  obtain ⟨p'', vs'', s1⟩ := r2'
  simp only [h2'] at h hv
  cases h3 : dexec P base l.toArray (l.drop n) (hs.drop n) s1 with
  | none => rw [h3] at h; cases h
  | some r3 =>
  obtain ⟨q, s2⟩ := r3
  simp only [h3, Option.map_some, Option.some.injEq, Prod.mk.injEq] at h hv
  obtain ⟨hv1, hv1', hv2⟩ := hv
  obtain ⟨hsd, rfl⟩ := h
  rw [← hsd] at hside
  rw [← hv1] at h2
  rw [← hv1'] at h2'
  obtain ⟨hlenv, stF, hF0, hFn, hFs⟩ := pexecS_steps _ _ _ _ _ _ _ h1 hside.1
  obtain ⟨_, stT, hT0, hTn, hTs⟩ := pexecS_steps _ _ _ _ _ _ _ h2 hside.2.1
  obtain ⟨_, stS, hS0, hSn, hSs⟩ := pexecS_steps _ _ _ _ _ _ _ h2' hside.2.2.1
  have hqS := hside.2.2.2.1
  have htail := dexec_sound (P := P) (base := base) (Q := Q) _ _ _ _ _ h3 hside.2.2.2.2 hq
  have hm2n : m2 < n := by simpa [Nat.blt_eq] using hmn
  have hmm2 : m < m2 := by simpa [Nat.blt_eq] using hlt0
  have hmn' : m < n := by omega
  simp only [drawOk, Bool.and_eq_true] at hok
  obtain ⟨⟨⟨⟨⟨hsel, hnle⟩, hpairs⟩, hback⟩, hsink⟩, hseq⟩ := hok
  have hnle' : n ≤ l.length := by simpa using Nat.le_of_ble_eq_true hnle
  have htl : (l.take n).length = n := by simp; omega
  rw [htl] at hFn hTn hSn hlenv
  let v : Nat → LV := fun i => vs.getD i (.one .junk)
  have hgetF : ∀ i, i < n → ∃ o, l[i]? = some o ∧ stF (i + 1) = (stF i).put o.dst (v i) ∧ (i = m ∨ i = m2 → v i = .one (.ref id 0)) ∧ (¬ (i = m ∨ i = m2) → Good P l.toArray (stF i) o (v i)) := by
    intro i hi
    have hlt : i < l.length := by omega
    obtain ⟨u, g1, g2, g3, g4⟩ := hFs i l[i] (by rw [List.getElem?_take, if_pos hi, List.getElem?_eq_getElem hlt])
    have : v i = u := by simp [v, List.getD, g1]
    rw [Nat.zero_add] at g3 g4
    exact ⟨l[i], List.getElem?_eq_getElem hlt, by rw [this]; exact g2, by rw [this]; exact g3, by rw [this]; exact g4⟩
  have hgetT : ∀ i, i < n → ∃ o, l[i]? = some o ∧ stT (i + 1) = (stT i).put o.dst (v i) ∧ (i = m ∨ i = m2 → v i = .one (.ref id 0)) ∧ (¬ (i = m ∨ i = m2) → Good P l.toArray (stT i) o (v i)) := by
    intro i hi
    have hlt : i < l.length := by omega
    obtain ⟨u, g1, g2, g3, g4⟩ := hTs i l[i] (by rw [List.getElem?_take, if_pos hi, List.getElem?_eq_getElem hlt])
    have : v i = u := by simp [v, List.getD, g1]
    rw [Nat.zero_add] at g3 g4
    exact ⟨l[i], List.getElem?_eq_getElem hlt, by rw [this]; exact g2, by rw [this]; exact g3, by rw [this]; exact g4⟩
  have hgetS : ∀ i, i < n → ∃ o, l[i]? = some o ∧ stS (i + 1) = (stS i).put o.dst (v i) ∧ (i = m ∨ i = m2 → v i = .one (.ref id 0)) ∧ (¬ (i = m ∨ i = m2) → Good P l.toArray (stS i) o (v i)) := by
    intro i hi
    have hlt : i < l.length := by omega
    obtain ⟨u, g1, g2, g3, g4⟩ := hSs i l[i] (by rw [List.getElem?_take, if_pos hi, List.getElem?_eq_getElem hlt])
    have : v i = u := by simp [v, List.getD, g1]
    rw [Nat.zero_add] at g3 g4
    exact ⟨l[i], List.getElem?_eq_getElem hlt, by rw [this]; exact g2, by rw [this]; exact g3, by rw [this]; exact g4⟩
  let s0 : DS := s.drop id
  let bxA : Nat → List (Nat × Box) := fun b => match b with | 0 => s0.bx | 1 => (id, .var cs) :: s0.bx | _ => sS.bx
  let ph : Array Bool → Nat := fun listed => match listed.getD m2 false, listed.getD m false with | true, _ => 2 | false, true => 1 | false, false => 0
  let dst : Nat → Option Tmp := fun i => (l[i]?).bind (·.dst)
  have hgood : ∀ b : Nat, b ≤ 2 → ∃ st : Nat → DS, (∀ i, i < n → ∃ o, l[i]? = some o ∧ (¬ (i = m ∨ i = m2) → Good P l.toArray (st i) o (v i))) ∧
      ∀ i, i ≤ n → (st i).sl.length = s0.sl.length ∧ (st i).bx = bxA b ∧ ∀ t, (st i).sl[t]? = view dst v s0.sl (fun _ => true) i t := by
    intro b hb2
    match b, hb2 with
    | 0, _ =>
      have := st_view (l := l) (n := n) (v := v) (st := stF) fun i hi => let ⟨o, a1, a2, _⟩ := hgetF i hi; ⟨o, a1, a2⟩
      rw [hF0] at this
      exact ⟨stF, fun i hi => let ⟨o, a1, _, _, a4⟩ := hgetF i hi; ⟨o, a1, a4⟩, this⟩
    | 1, _ =>
      have := st_view (l := l) (n := n) (v := v) (st := stT) fun i hi => let ⟨o, a1, a2, _⟩ := hgetT i hi; ⟨o, a1, a2⟩
      rw [hT0] at this
      exact ⟨stT, fun i hi => let ⟨o, a1, _, _, a4⟩ := hgetT i hi; ⟨o, a1, a4⟩, this⟩
    | 2, _ =>
      have := st_view (l := l) (n := n) (v := v) (st := stS) fun i hi => let ⟨o, a1, a2, _⟩ := hgetS i hi; ⟨o, a1, a2⟩
      rw [hS0] at this
      exact ⟨stS, fun i hi => let ⟨o, a1, _, _, a4⟩ := hgetS i hi; ⟨o, a1, a4⟩, this⟩
  have hpair : ∀ k j, k < n → j < n → k < j → ∀ x y, l[k]? = some x → l[j]? = some y → Region.waitsFor .any l.toArray j k = true ∨ x.apart l.toArray y = true := by
    intro k j hk hj hkj x y hx hy
    have h1 := List.all_eq_true.1 hpairs k (List.mem_range.2 hk)
    have h2 := List.all_eq_true.1 h1 j (List.mem_range.2 hj)
    simp only [Bool.or_eq_true] at h2
    rcases h2 with (h2 | h2) | h2
    · have := Nat.le_of_ble_eq_true h2; omega
    · exact .inl h2
    · simp only [List.getElem?_toArray, hx, hy] at h2
      exact .inr h2
  obtain ⟨om, hom, hopm⟩ := Option.map_eq_some_iff.1 hop
  simp only [Prod.mk.injEq] at hopm
  obtain ⟨hom1, hom2, hom3⟩ := hopm
  obtain ⟨oS, hoS, hopS⟩ := Option.map_eq_some_iff.1 hop2
  simp only [Prod.mk.injEq] at hopS
  obtain ⟨hoS1, hoS2, hoS3⟩ := hopS
  have hsmT : stT m2 = sm := by
    rw [← hsm, ← hT0]
    refine (putAll_st (l := l) (vs := vs) (st := stT) m2 fun i hi => ?_).symm
    obtain ⟨o, a1, a2, _⟩ := hgetT i (by omega)
    have hlt : i < vs.length := by omega
    exact ⟨o, v i, a1, by simp [v, List.getD, List.getElem?_eq_getElem hlt], a2⟩
  have hph : ∀ listed, ph listed ≤ 2 := fun listed => by simp only [ph]; split <;> omega
  refine wp_region_any hm ?_
  have head : ∀ (f : Nat) (listed : Array Bool) (a : Act) (w : World) (M : BMap), todo n listed = f → HeadInv .any l.toArray n listed → a.defers = E.defs → a.tmps.size = s0.sl.length →
      (∀ t lv, view dst v s0.sl (fun j => listed.getD j false) n t = some lv → LV.rel w (Av E.A0 M (bxA (ph listed))) M lv (a.tmps.getD t undef)) → Boxes E M w (bxA (ph listed)) →
      wpAny P .any l.toArray (Lift E Q) (f + (l.length - n)) listed a w := by
    intro f
    induction f with
    | zero =>
      intro listed a w M htodo inv hdef hsz hslots hbx
      have hall := todo_zero htodo
      have hlm : ph listed = 2 := by simp only [ph, hall m2 hm2n]
      rw [hlm] at hslots hbx
      have hlist : listed = headListed n l.toArray.size := listed_eq inv.size (by simpa using hnle') hall (fun i h1 h2 => inv.tail i h1 h2)
      rw [Nat.zero_add]
      have hstn' : St E M w a s1 := by
        rw [← hSn]
        have := st_view (l := l) (n := n) (v := v) (st := stS) fun i hi => let ⟨o, a1, a2, _⟩ := hgetS i hi; ⟨o, a1, a2⟩
        rw [hS0] at this
        obtain ⟨g1, g2, g3⟩ := this n (Nat.le_refl _)
        refine ⟨hdef, by rw [hsz, g1], fun t lv hlv => ?_, by rw [g2]; exact hbx⟩
        rw [g2]
        rw [g3] at hlv
        refine hslots t lv ?_
        have key : ∀ k, k ≤ n → view dst v s0.sl (fun j => listed.getD j false) k t = view dst v s0.sl (fun _ => true) k t := by
          intro k
          induction k with
          | zero => intro _; rfl
          | succ k ih => intro hk; simp only [view]; rw [ih (by omega)]; simp only [hall k (by omega)]
        rw [key n (Nat.le_refl _)]
        exact hlv
      have hdl : (l.drop n).length = l.length - n := by simp
      have := wpAny_of_seq (md := .any) (ops := l.toArray) (P := P) (Q' := Lift E Q) (l.drop n) n listed a w (fun j => by simp [List.getElem?_drop]) (by rw [hdl, hlist]; simpa using hseq) (htail E M w a hbase hstn')
      rwa [hdl] at this
    | succ f ih =>
      intro listed a w M htodo inv hdef hsz hslots hbx
      rw [show f + 1 + (l.length - n) = (f + (l.length - n)) + 1 by omega]
      obtain ⟨i0, hi0, hl0, hbef⟩ := exists_todo htodo
      have hready0 : i0 ∈ Region.ready .any l.toArray listed := by
        obtain ⟨o, ho, _, _⟩ := hgetF i0 hi0
        refine mem_ready.2 ⟨getD_in (by rw [inv.size]; simp; omega) hl0, o, by simpa using ho, fun e he hbnd => ?_⟩
        have hb := List.all_eq_true.1 hback i0 (List.mem_range.2 hi0)
        simp only [List.getElem?_toArray, ho] at hb
        have := Array.all_eq_true_iff_forall_mem.1 hb e he
        simp only [hbnd, Bool.not_true, Bool.false_or] at this
        exact hbef e.on (by simpa [Nat.blt_eq] using this)
      refine ⟨fun h0 => (by rw [h0] at hready0; cases hready0), fun i hi => ?_⟩
      obtain ⟨hun, o, hoi, hall⟩ := mem_ready.1 hi
      have hisz : i < l.length := by
        have := (Array.getElem?_eq_some_iff.1 hoi).1
        simpa using this
      have hin : i < n := by
        rcases Nat.lt_or_ge i n with h | h
        · exact h
        · rcases Bool.or_eq_true _ _ ▸ hsink with hsink | hsink
          · have : n = l.length := by simpa using hsink
            omega
          · simp only [Bool.and_eq_true] at hsink
            exact absurd hi (tail_waits hsink.1 hsink.2 (by simp; omega) inv _ i0 rfl hi0 (getD_in (by rw [inv.size]; simp; omega) hl0) i h)
      have hXi : listed.getD i false = false := getD_both hun
      have hoi' : l[i]? = some o := by simpa using hoi
      have hls : i < listed.size := by rw [inv.size]; simp; omega
      have hwait : ∀ j k, Region.waitsFor .any l.toArray j k = true → listed.getD j false = true → listed.getD k false = true := by
        intro j k hw hl
        obtain ⟨oj, hoj, e, he, hb, hon⟩ := Region.waitsFor_spec hw
        rw [← hon]
        exact inv.closed j oj hoj hl e he hb
      have hdstj : ∀ j t, dst j = some t → ∃ oj, l[j]? = some oj ∧ oj.dst = some t := by
        intro j t hj
        simp only [dst] at hj
        cases hlj : l[j]? with
        | none => simp [hlj] at hj
        | some oj => exact ⟨oj, rfl, by simpa [hlj] using hj⟩
      have hX' : (fun j => (listed.setIfInBounds i true).getD j false) = fun j => listed.getD j false || j == i := by
        funext j
        by_cases hj : i = j
        · subst hj; simp [hls]
        · rw [getD_set_ne false hj]
          have : (j == i) = false := by simpa using fun e => hj e.symm
          simp [this]
      have hview : ∀ t, view dst v s0.sl (fun j => (listed.setIfInBounds i true).getD j false) n t = if i < n ∧ dst i = some t ∧ t < s0.sl.length then some (v i) else view dst v s0.sl (fun j => listed.getD j false) n t := by
        intro t
        rw [hX']
        exact view_after (i := i) hXi n (fun j t hij hjn hdi hdj => by
          obtain ⟨oj, hoj, hdo⟩ := hdstj j t hdj
          rcases hpair i j hin hjn hij o oj hoi' hoj with h1 | h1
          · cases hlj : listed.getD j false with
            | false => rfl
            | true => rw [hwait j i h1 hlj] at hXi; cases hXi
          · have hdi' : o.dst = some t := by simpa [dst, hoi'] using hdi
            exact absurd hdo ((Oper.apart_spec h1).2.1 t hdi')) t
      have hdi : dst i = o.dst := by simp [dst, hoi']
      by_cases him : i = m
      · subst him
        have : om = o := Option.some.inj (hom.symm.trans hoi')
        subst this
        have hl2 : listed.getD m2 false = false := by
          cases hb : listed.getD m2 false with
          | false => rfl
          | true => rw [hwait m2 i hmm hb] at hXi; cases hXi
        have hp0 : ph listed = 0 := by simp only [ph, hl2, hXi]
        rw [hp0] at hslots hbx
        have hvm : v i = .one (.ref id 0) := by
          obtain ⟨_, _, _, g, _⟩ := hgetF i hin
          exact g (.inl rfl)
        let ds : DS := ⟨(List.range a.tmps.size).map fun t => (view dst v s0.sl (fun j => listed.getD j false) n t).getD (.one .junk), s0.bx⟩
        have hds : St E M w a ds := by
          refine ⟨hdef, by simp [ds], fun t lv hlv => ?_, hbx⟩
          simp only [ds, List.getElem?_map, Option.map_eq_some_iff] at hlv
          obtain ⟨t', ht', rfl⟩ := hlv
          have := (List.getElem?_eq_some_iff.1 ht')
          obtain ⟨hlt, he⟩ := this
          simp at he
          subst he
          cases hvw : view dst v s0.sl (fun j => listed.getD j false) n t with
          | none => trivial
          | some lv => exact hslots t lv hvw
        have he : estep P base om ds none = some (True, ((ds.drop id).push id (.var cs)).put (some d) (.one (.ref id 0))) := by
          simp only [estep, hom1, hom2, hz, hid]
        have hes := estep_sound (P := P) he trivial hds hbase
        unfold wpOp
        simp only [hoi]
        rw [show Region.wanted om (yielded l.toArray a.tmps) = true by simp [Region.wanted, hom3]]
        simp only [if_true]
        refine .inl (hes _ _ fun val w' M'' hst'' => ?_)
        have hlist' : ph (listed.setIfInBounds i true) = 1 := by
          have e1 : (listed.setIfInBounds i true).getD i false = true := by simp [hls]
          have e2 : (listed.setIfInBounds i true).getD m2 false = false := by rw [getD_set_ne false (by omega)]; exact hl2
          simp only [ph, e1, e2]
        have hbxe : ((ds.drop id).push id (.var cs)).bx = bxA 1 := by
          show (id, Box.var cs) :: (ds.drop id).bx = (id, Box.var cs) :: s0.bx
          rw [show (ds.drop id).bx = s0.bx from DS.drop_bx_drop id s _]
        refine ih _ _ w' M'' (by have := todo_set hin hls hXi; omega) (inv.set hi hin) hst''.defers (by simp [hom2, Act.put, hsz]) (fun t lv hlv => ?_) (by rw [hlist']; have := hst''.boxes; rwa [put_bx, hbxe] at this)
        rw [hlist']
        have hbx2 : (((ds.drop id).push id (.var cs)).put (some d) (.one (.ref id 0))).bx = bxA 1 := by rw [put_bx, hbxe]
        have hsl2 := hst''.slots
        rw [hbx2] at hsl2
        refine hsl2 t lv ?_
        rw [hview t] at hlv
        rw [put_get]
        rw [hdi, hom2] at hlv
        have hlen2 : ((ds.drop id).push id (.var cs)).sl.length = s0.sl.length := by simp [DS.drop, DS.push, ds, hsz]
        rw [hlen2]
        split at hlv
        · rename_i hc
          rw [if_pos ⟨hc.2.1, hc.2.2⟩, ← hlv, hvm]
        · rename_i hc
          have hlt := view_lt n hlv
          rw [if_neg (fun e => hc ⟨hin, e.1, e.2⟩)]
          simp only [DS.drop, DS.push, ds, List.map_map, List.getElem?_map]
          rw [List.getElem?_range (by rw [hsz]; exact hlt)]
          simp only [Option.map_some, Function.comp_apply, hlv, Option.getD_some, Option.some.injEq]
          rcases view_cases n hlv with hb | ⟨j, hjn, hXj, rfl⟩
          · simp only [s0, DS.drop, List.getElem?_map, Option.map_eq_some_iff] at hb
            obtain ⟨l0, _, rfl⟩ := hb
            exact LV.scrub_scrub id l0
          · have hjv : vs[j]? = some (v j) := by
              have : j < vs.length := by omega
              simp [v, List.getD, List.getElem?_eq_getElem this]
            rcases fixVals_get hv2 j _ hjv with hc2 | hc2
            · rw [Nat.zero_add] at hc2
              rcases hc2 with hc2 | hc2
              · subst hc2; rw [hXj] at hXi; cases hXi
              · rw [hwait j i hc2 hXj] at hXi; cases hXi
            · exact hc2
      by_cases him2 : i = m2
      · subst him2
        have : oS = o := Option.some.inj (hoS.symm.trans hoi')
        subst this
        have hl1 : listed.getD m false = true := by
          obtain ⟨oo, hoo, e, he, hb, hon⟩ := Region.waitsFor_spec hmm
          have : oo = oS := Option.some.inj (hoo.symm.trans hoi)
          subst this
          rw [← hon]
          exact hall e he hb
        have hp1 : ph listed = 1 := by simp only [ph, hXi, hl1]
        rw [hp1] at hslots hbx
        have hstsl : ∀ i, i ≤ n → (stT i).sl.length = s0.sl.length ∧ (stT i).bx = bxA 1 ∧ ∀ t, (stT i).sl[t]? = view dst v s0.sl (fun _ => true) i t := by
          have := st_view (l := l) (n := n) (v := v) (st := stT) fun i hi => let ⟨o, a1, a2, _⟩ := hgetT i hi; ⟨o, a1, a2⟩
          rw [hT0] at this
          exact this
        let ds : DS := ⟨(List.range a.tmps.size).map fun t => (view dst v s0.sl (fun j => listed.getD j false) n t).getD (.one .junk), bxA 1⟩
        have hds : St E M w a ds := by
          refine ⟨hdef, by simp [ds], fun t lv hlv => ?_, hbx⟩
          simp only [ds, List.getElem?_map, Option.map_eq_some_iff] at hlv
          obtain ⟨t', ht', rfl⟩ := hlv
          have := (List.getElem?_eq_some_iff.1 ht')
          obtain ⟨hlt, he⟩ := this
          simp at he
          subst he
          cases hvw : view dst v s0.sl (fun j => listed.getD j false) n t with
          | none => trivial
          | some lv => exact hslots t lv hvw
        have hlook : ∀ t ∈ oS.looksAt l.toArray, view dst v s0.sl (fun j => listed.getD j false) n t = (stT i).sl[t]? := by
          intro t ht
          rw [(hstsl i (by omega)).2.2, view_same (i := i) hXi n (fun j hj hdj => ?_) (fun j hij hjn hdj => ?_), Nat.min_eq_right (by omega)]
          · obtain ⟨oj, hoj, hdo⟩ := hdstj j t hdj
            rcases hpair j i (by omega) hin hj oj oS hoj hoi' with h1 | h1
            · obtain ⟨oo, hoo, e, he, hb, hon⟩ := Region.waitsFor_spec h1
              have : oo = oS := Option.some.inj (hoo.symm.trans hoi)
              subst this
              rw [← hon]
              exact hall e he hb
            · exact absurd ht ((Oper.apart_spec h1).1 t hdo)
          · obtain ⟨oj, hoj, hdo⟩ := hdstj j t hdj
            rcases hpair i j hin hjn hij oS oj hoi' hoj with h1 | h1
            · cases hlj : listed.getD j false with
              | false => rfl
              | true => rw [hwait j i h1 hlj] at hXi; cases hXi
            · exact absurd ht ((Oper.apart_spec h1).2.2 t hdo)
        have hev : ∀ x ∈ [x0, y0], ds.ev x = (stT i).ev x := by
          intro x hx
          cases x with
          | tmp t =>
            have ht : t ∈ oS.looksAt l.toArray := List.mem_append_left _ (List.mem_filterMap.2 ⟨.tmp t, by rw [hoS1]; simpa [Op.operands] using hx, rfl⟩)
            have h1 := hlook t ht
            simp only [DS.ev, List.getD]
            rw [← h1]
            simp only [ds, List.getElem?_map]
            by_cases hlt : t < a.tmps.size
            · rw [List.getElem?_range hlt]; simp
            · rw [List.getElem?_eq_none (by simpa using hlt)]
              cases hvw : view dst v s0.sl (fun j => listed.getD j false) n t with
              | none => rfl
              | some lv => have := view_lt n hvw; rw [← hsz] at this; exact absurd this hlt
          | const c => rfl
          | global g => rfl
          | func f => rfl
        have hst2 : eStore P ds T0 (ds.ev x0) (ds.ev y0) none = some (qS, ⟨ds.sl, sS.bx⟩) := by
          rw [hev x0 (by simp), hev y0 (by simp), hsmT]
          refine eStore_bx ?_ hst
          rw [← hsmT]
          exact ((hstsl i (by omega)).2.1).symm
        have he : estep P base oS ds none = some (qS, ⟨ds.sl, sS.bx⟩) := by
          simp only [estep, hoS1, hoS2]
          exact hst2
        have hes := estep_sound (P := P) he hqS hds hbase
        unfold wpOp
        simp only [hoi]
        rw [show Region.wanted oS (yielded l.toArray a.tmps) = true by simp [Region.wanted, hoS3]]
        simp only [if_true]
        refine .inl (hes _ _ fun val w' M'' hst'' => ?_)
        have hp2 : ph (listed.setIfInBounds i true) = 2 := by
          have e1 : (listed.setIfInBounds i true).getD i false = true := by simp [hls]
          simp only [ph, e1]
        have haa : a.put oS.dst val = a := by rw [hoS2]; rfl
        rw [haa] at hst'' ⊢
        refine ih _ _ w' M'' (by have := todo_set hin hls hXi; omega) (inv.set hi hin) hst''.defers hsz (fun t lv hlv => ?_) (by rw [hp2]; exact hst''.boxes)
        rw [hp2]
        rw [hview t, hdi, hoS2] at hlv
        rw [if_neg (by simp)] at hlv
        refine hst''.slots t lv ?_
        have hlt := view_lt n hlv
        simp only [ds, List.getElem?_map]
        rw [List.getElem?_range (by rw [hsz]; exact hlt)]
        simp only [Option.map_some, hlv, Option.getD_some]
      · obtain ⟨st, hgd, hstsl⟩ := hgood (ph listed) (hph listed)
        obtain ⟨o', ho', hgood'⟩ := hgd i hin
        have : o' = o := Option.some.inj (ho'.symm.trans hoi')
        subst this
        have hgood := hgood' (fun e => e.elim him him2)
        have hlook : ∀ t ∈ o'.looksAt l.toArray, ∀ lv, (st i).sl[t]? = some lv → LV.rel w (Av E.A0 M (bxA (ph listed))) M lv (a.tmps.getD t undef) := by
          intro t ht lv hlv
          rw [(hstsl i (by omega)).2.2] at hlv
          refine hslots t lv ?_
          rw [view_same (i := i) hXi n (fun j hj hdj => ?_) (fun j hij hjn hdj => ?_), Nat.min_eq_right (by omega)]
          · exact hlv
          · obtain ⟨oj, hoj, hdo⟩ := hdstj j t hdj
            rcases hpair j i (by omega) hin hj oj o' hoj hoi' with h1 | h1
            · obtain ⟨oo, hoo, e, he, hb, hon⟩ := Region.waitsFor_spec h1
              have : oo = o' := Option.some.inj (hoo.symm.trans hoi)
              subst this
              rw [← hon]
              exact hall e he hb
            · exact absurd ht ((Oper.apart_spec h1).1 t hdo)
          · obtain ⟨oj, hoj, hdo⟩ := hdstj j t hdj
            rcases hpair i j hin hjn hij o' oj hoi' hoj with h1 | h1
            · cases hlj : listed.getD j false with
              | false => rfl
              | true => rw [hwait j i h1 hlj] at hXi; cases hXi
            · exact absurd ht ((Oper.apart_spec h1).2.2 t hdo)
        have hszi : a.tmps.size = (st i).sl.length := by rw [hsz, (hstsl i (by omega)).1]
        have hbxi : (st i).bx = bxA (ph listed) := (hstsl i (by omega)).2.1
        have hlm : ph (listed.setIfInBounds i true) = ph listed := by simp only [ph]; rw [getD_set_ne false him, getD_set_ne false him2]
        have next : ∀ (val : Value) (w' : World), Below w.heap.size w w' → LV.rel w' (Av E.A0 M (bxA (ph listed))) M (v i) val → wpAny P .any l.toArray (Lift E Q) (f + (l.length - n)) (listed.setIfInBounds i true) (a.put o'.dst val) w' := by
          intro val w' hbel hval
          refine ih _ _ w' M (by have := todo_set hin hls hXi; omega) (inv.set hi hin) (by cases hdd : o'.dst <;> simp [Act.put, hdd, hdef]) (by cases hdd : o'.dst <;> simp [Act.put, hdd, hsz]) (fun t lv hlv => ?_) (by rw [hlm]; exact hbx.below hbel)
          rw [hlm]
          rw [hview t, hdi] at hlv
          split at hlv
          · rename_i hc
            cases hlv
            have hlt : t < a.tmps.size := by rw [hsz]; exact hc.2.2
            rw [hc.2.1]
            simpa [Act.put, hlt] using hval
          · rename_i hc
            have hold := (hslots t lv hlv).mono (Keeps.below hbel)
            have hlt := view_lt n hlv
            have hne : o'.dst ≠ some t := fun e => hc ⟨hin, e, hlt⟩
            cases hdd : o'.dst with
            | none => simpa [Act.put, hdd] using hold
            | some d =>
              have : d ≠ t := fun e => hne (by rw [hdd, e])
              simpa [Act.put, hdd, this] using hold
        unfold wpOp
        simp only [hoi]
        obtain ⟨g, pp, b, hwb, hpp, hcase⟩ := hgood
        rw [wantB_sound' (w := w) (A := Av E.A0 M (bxA (ph listed))) (M := M) hwb hpp hszi hlook]
        rcases hcase with ⟨rfl, hv⟩ | ⟨rfl, hh, sd, hpv, hsd⟩
        · simp only [Bool.false_eq_true, if_false]
          exact next undef w (Below.refl _ _) (by rw [hv]; exact ud_rel)
        · simp only [if_true]
          rw [hbxi] at hpv
          refine .inl (pval_sound (P := P) (E := E) hpv hsd hbx (fun x hx => ?_) _ _ next)
          cases x with
          | tmp t =>
            simp only [DS.ev, Act.eval]
            cases ht : (st i).sl[t]? with
            | none => simp [List.getD, ht]; trivial
            | some lv =>
              simp only [List.getD, ht, Option.getD_some]
              refine hlook t ?_ lv ht
              exact List.mem_append_left _ (List.mem_filterMap.2 ⟨.tmp t, by simpa using hx, rfl⟩)
          | const c => exact ofConst_rel c
          | global g => exact RelD.con _ rfl
          | func f => exact ⟨#[], rfl, rfl, fun j c hj => by simp at hj⟩
  have hph0 : ph (Array.replicate l.toArray.size false) = 0 := by simp only [ph, getD_replicate_false]
  have hdrew : Below w0.heap.size w0 w0.drew := (Below.refl _ _).drew
  have hst1 := hst0.below hdrew
  have hrep : todo n (Array.replicate l.toArray.size false) = n := by
    unfold todo
    have : ((List.range n).filter fun i => !(Array.replicate l.toArray.size false).getD i false) = List.range n := by
      rw [List.filter_eq_self]
      intro k _
      rw [getD_replicate_false]; rfl
    rw [this]; simp
  have := head n (Array.replicate l.toArray.size false) a0 w0.drew M0 hrep
    ⟨by simp, fun j oj _ hl => (by rw [getD_replicate_false] at hl; cases hl), fun t _ ht => getD_in (by simpa using ht) (getD_replicate_false _ _)⟩ hst1.defers hst1.size (fun t lv hlv => by
      rw [hph0]
      refine hst1.slots t lv ?_
      have : ∀ k, view dst v s0.sl (fun j => (Array.replicate l.toArray.size false).getD j false) k t = s0.sl[t]? := by
        intro k
        induction k with
        | zero => rfl
        | succ k ih => simp only [view]; rw [ih]; simp only [getD_replicate_false]; simp
      rw [← this n]; exact hlv) (by rw [hph0]; exact hst1.boxes)
  rw [show n + (l.length - n) = l.toArray.size by simp; omega] at this
  exact this


def wayDS (P : Program) (base : Nat) (l : List Oper) (n m m2 d : Nat) (t T0 : TypeId) (x0 y0 : Operand) (hs : List Hint) (live dead : List Nat) (s : DS) : Option (Prop × DS) :=
  (dexecDrawS P base l n m m2 d t T0 x0 y0 hs s).map fun r => (r.1, r.2.2.2.2.prune live dead)

theorem T_regDS {base rid : Nat} {l : List Oper} {Q : DX → DS → Prop} {s : DS} (n m m2 d : Nat) (t0 T0 : TypeId) (x0 y0 : Operand) (hs : List Hint) (live dead : List Nat) (s' : DS) (side : Prop) (hm : P.follows .mixedOrders = true) (hok : drawOk l.toArray n = true)
    (hmn : Nat.blt m2 n = true) (hmm : Region.waitsFor .any l.toArray m2 m = true) (hlt0 : Nat.blt m m2 = true) (hop : (l[m]?).map (fun o => (o.op, o.dst, o.guard)) = some (.alloc t0, some d, none)) (hop2 : (l[m2]?).map (fun o => (o.op, o.dst, o.guard)) = some (.store T0 x0 y0, none, none))
    (h : wayDS P base l n m m2 d t0 T0 x0 y0 hs live dead s = some (side, s'))
    (hv : (dexecDrawS P base l n m m2 d t0 T0 x0 y0 hs s).map (fun r => (r.2.1, r.2.1, fixVals l.toArray m (base + d) 0 r.2.1)) = (dexecDrawS P base l n m m2 d t0 T0 x0 y0 hs s).map (fun r => (r.2.2.1, r.2.2.2.1, r.2.1)))
    (hside : side) {y : Code} (hq : T P base y Q s') : T P base (.seq (.region rid l.toArray true) y) Q s := by
  unfold wayDS at h
  simp only [Option.map_eq_some_iff, Prod.mk.injEq] at h
  obtain ⟨⟨sd, v1, v2, v3, s1⟩, h1, rfl, rfl⟩ := h
  exact T_seq (T_drawS n m m2 d t0 T0 x0 y0 hs s1 sd hm hok hmn hmm hlt0 hop hop2 (by rw [h1]; rfl) hv hside (T_le (DS.le_prune s1 live dead) hq))
theorem Ret.to {f : FuncId} {ds : List D} {d d' : D} (h : Ret P f ds d) (e : d = d') : Ret P f ds d' := e ▸ h
end
end Go.DL

/-
  Walks at the data level, printed by gen.py: what each Go function returns, for data that reads as said. Conditions: those of each theorem.
-/
namespace Go.Proofs.Ytpkbecaailhhmaa
open Go.DL
set_option maxRecDepth 100000
set_option linter.unusedVariables false
set_option linter.unusedSimpArgs false
theorem ret_step (h : House) (hf : Fits h) (s : Step) (hs : s.ps.length ≤ 140737488355328) : Ret Try.prog 28 [(.agg [(.sl 2 (h.b.map encPay)), (.sl 4 (h.h.map encHold))]), (.agg [(I s.k), (I s.c), (I s.a), (I s.t), (.sl 2 (s.ps.map encPay)), (B (s.pd))])] (.tup [(.agg [(.sl 2 ((stepOf h s).1.b.map encPay)), (.sl 4 ((stepOf h s).1.h.map encHold))]), (I (stepOf h s).2)]) := by
  refine Ret.of_T Try.func28 (by kernel_rfl) rfl ?_
  refine T_turn [] [0, 1] [] (mk 38 [(0, (.agg [(.dat (.sl 2 (h.b.map encPay))), (.dat (.sl 4 (h.h.map encHold)))])), (1, (.agg [(.dat (I s.k)), (.dat (I s.c)), (.dat (I s.a)), (.dat (I s.t)), (.dat (.sl 2 (s.ps.map encPay))), (.dat (B (s.pd)))]))] []) (by kernel_rfl) ?_
  refine T_reg [] [2, 3, 4] [] (mk 38 [(2, (.one (.ref 2 0))), (3, (.one (.ref 3 0))), (4, (.one (.ref 4 0)))] [(4, (.var [(.dat nilS), (.dat nilS)])), (3, (.var [(.dat (I s.k)), (.dat (I s.c)), (.dat (I s.a)), (.dat (I s.t)), (.dat (.sl 2 (s.ps.map encPay))), (.dat (B (s.pd)))])), (2, (.var [(.dat (.sl 2 (h.b.map encPay))), (.dat (.sl 4 (h.h.map encHold)))]))]) (True ∧ True ∧ True ∧ True ∧ True ∧ True ∧ True ∧ True ∧ True) (by kernel_rfl) ⟨trivial, trivial, trivial, trivial, trivial, trivial, trivial, trivial, trivial⟩ ?_
  refine T_seq ?_
  refine T_reg [] [2, 3, 4, 7] [] (mk 38 [(2, (.one (.ref 2 0))), (3, (.one (.ref 3 0))), (4, (.one (.ref 4 0))), (7, (dt (I s.k)))] [(4, (.var [(.dat nilS), (.dat nilS)])), (3, (.var [(.dat (I s.k)), (.dat (I s.c)), (.dat (I s.a)), (.dat (I s.t)), (.dat (.sl 2 (s.ps.map encPay))), (.dat (B (s.pd)))])), (2, (.var [(.dat (.sl 2 (h.b.map encPay))), (.dat (.sl 4 (h.h.map encHold)))]))]) (True ∧ True ∧ True ∧ True ∧ True) (by kernel_rfl) ⟨trivial, trivial, trivial, trivial, trivial⟩ ?_
  refine T_block ?_
  refine T_reg [] [2, 3, 4, 7, 8] [] (mk 38 [(2, (.one (.ref 2 0))), (3, (.one (.ref 3 0))), (4, (.one (.ref 4 0))), (7, (dt (I s.k))), (8, (dt (B (s.k == 0))))] [(4, (.var [(.dat nilS), (.dat nilS)])), (3, (.var [(.dat (I s.k)), (.dat (I s.c)), (.dat (I s.a)), (.dat (I s.t)), (.dat (.sl 2 (s.ps.map encPay))), (.dat (B (s.pd)))])), (2, (.var [(.dat (.sl 2 (h.b.map encPay))), (.dat (.sl 4 (h.h.map encHold)))]))]) (True ∧ True ∧ True ∧ True ∧ True) (by kernel_rfl) ⟨trivial, trivial, trivial, trivial, trivial⟩ ?_
  refine T_cond (s.k == 0) (by kernel_rfl) (fun h1 => ?_) (fun h1 => ?_)
  · skip
    have g2 : s.k = 0 := eq_of_beq (h1)
    refine T_reg [{}, {}, {}, {}, {}, { d := some (.tup [(.agg [(.sl 2 ((paid h s.c s.a).1.b.map encPay)), (.sl 4 ((paid h s.c s.a).1.h.map encHold))]), (I (paid h s.c s.a).2)]) }] [4, 5] [3, 2] (mk 38 [(4, (.one (.ref 4 0))), (5, (dt (I (paid h s.c s.a).2)))] [(4, (.var [(.dat (.sl 2 ((paid h s.c s.a).1.b.map encPay))), (.dat (.sl 4 ((paid h s.c s.a).1.h.map encHold)))]))]) (True ∧ True ∧ True ∧ True ∧ True ∧ True ∧ True ∧ True ∧ True ∧ True ∧ True ∧ (Ret Try.prog 22 [(.agg [(.sl 2 (h.b.map encPay)), (.sl 4 (h.h.map encHold))]), (I s.c), (I s.a)] (.tup [(.agg [(.sl 2 ((paid h s.c s.a).1.b.map encPay)), (.sl 4 ((paid h s.c s.a).1.h.map encHold))]), (I (paid h s.c s.a).2)])) ∧ True ∧ True ∧ True ∧ True ∧ True ∧ True ∧ True ∧ True ∧ True) (by kernel_rfl) ⟨trivial, trivial, trivial, trivial, trivial, trivial, trivial, trivial, trivial, trivial, trivial, (ret_pay h ((by assumption : Fits h)).1 ((by assumption : Fits h)).2.1 ((by assumption : Fits h)).2.2 _ _), trivial, trivial, trivial, trivial, trivial, trivial, trivial, trivial, trivial⟩ ?_
    refine T_ret ?_
    exact ret_here [(.agg [(.dat (.sl 2 ((paid h s.c s.a).1.b.map encPay))), (.dat (.sl 4 ((paid h s.c s.a).1.h.map encHold)))]), (dt (I (paid h s.c s.a).2))] (by kernel_rfl) ⟨⟨(.inl (congrArg (fun l => D.sl 2 (l.map encPay)) (by first | (rw [stepOf, if_pos (by assumption)]; done) | (rw [stepOf, if_neg (by assumption), if_pos (by assumption)]; done) | (rw [stepOf, if_neg (by assumption), if_neg (by assumption)]; done) : (paid h s.c s.a).1.b = (stepOf h s).1.b))), (.inl (congrArg (fun l => D.sl 4 (l.map encHold)) (by first | (rw [stepOf, if_pos (by assumption)]; done) | (rw [stepOf, if_neg (by assumption), if_pos (by assumption)]; done) | (rw [stepOf, if_neg (by assumption), if_neg (by assumption)]; done) : (paid h s.c s.a).1.h = (stepOf h s).1.h))), trivial⟩, (.inl (congrArg I (by first | (rw [stepOf, if_pos (by assumption)]; done) | (rw [stepOf, if_neg (by assumption), if_pos (by assumption)]; done) | (rw [stepOf, if_neg (by assumption), if_neg (by assumption)]; done) : (paid h s.c s.a).2 = (stepOf h s).2))), trivial⟩
  · skip
    have g3 : s.k ≠ 0 := ne_of_beq_false (h1)
    refine T_reg [] [2, 3, 4, 18] [] (mk 38 [(2, (.one (.ref 2 0))), (3, (.one (.ref 3 0))), (4, (.one (.ref 4 0))), (18, (dt (B (s.k == 1))))] [(4, (.var [(.dat nilS), (.dat nilS)])), (3, (.var [(.dat (I s.k)), (.dat (I s.c)), (.dat (I s.a)), (.dat (I s.t)), (.dat (.sl 2 (s.ps.map encPay))), (.dat (B (s.pd)))])), (2, (.var [(.dat (.sl 2 (h.b.map encPay))), (.dat (.sl 4 (h.h.map encHold)))]))]) (True ∧ True ∧ True ∧ True ∧ True) (by kernel_rfl) ⟨trivial, trivial, trivial, trivial, trivial⟩ ?_
    refine T_cond (s.k == 1) (by kernel_rfl) (fun h4 => ?_) (fun h4 => ?_)
    · skip
      have g5 : s.k = 1 := eq_of_beq (h4)
      refine T_reg [{}, {}, {}, {}, {}, {}, {}, { d := some (.tup [(.agg [(.sl 2 ((held h s.t s.c s.ps).1.b.map encPay)), (.sl 4 ((held h s.t s.c s.ps).1.h.map encHold))]), (I (held h s.t s.c s.ps).2)]) }] [4, 5] [3, 2] (mk 38 [(4, (.one (.ref 4 0))), (5, (dt (I (held h s.t s.c s.ps).2)))] [(4, (.var [(.dat (.sl 2 ((held h s.t s.c s.ps).1.b.map encPay))), (.dat (.sl 4 ((held h s.t s.c s.ps).1.h.map encHold)))]))]) (True ∧ True ∧ True ∧ True ∧ True ∧ True ∧ True ∧ True ∧ True ∧ True ∧ True ∧ True ∧ True ∧ True ∧ True ∧ (Ret Try.prog 24 [(.agg [(.sl 2 (h.b.map encPay)), (.sl 4 (h.h.map encHold))]), (I s.t), (I s.c), (.sl 2 (s.ps.map encPay))] (.tup [(.agg [(.sl 2 ((held h s.t s.c s.ps).1.b.map encPay)), (.sl 4 ((held h s.t s.c s.ps).1.h.map encHold))]), (I (held h s.t s.c s.ps).2)])) ∧ True ∧ True ∧ True ∧ True ∧ True ∧ True ∧ True ∧ True ∧ True) (by kernel_rfl) ⟨trivial, trivial, trivial, trivial, trivial, trivial, trivial, trivial, trivial, trivial, trivial, trivial, trivial, trivial, trivial, (ret_hold h ((by assumption : Fits h)).1 ((by assumption : Fits h)).2.1 ((by assumption : Fits h)).2.2 _ _ _ (by first | assumption | exact hs)), trivial, trivial, trivial, trivial, trivial, trivial, trivial, trivial, trivial⟩ ?_
      refine T_ret ?_
      exact ret_here [(.agg [(.dat (.sl 2 ((held h s.t s.c s.ps).1.b.map encPay))), (.dat (.sl 4 ((held h s.t s.c s.ps).1.h.map encHold)))]), (dt (I (held h s.t s.c s.ps).2))] (by kernel_rfl) ⟨⟨(.inl (congrArg (fun l => D.sl 2 (l.map encPay)) (by first | (rw [stepOf, if_pos (by assumption)]; done) | (rw [stepOf, if_neg (by assumption), if_pos (by assumption)]; done) | (rw [stepOf, if_neg (by assumption), if_neg (by assumption)]; done) : (held h s.t s.c s.ps).1.b = (stepOf h s).1.b))), (.inl (congrArg (fun l => D.sl 4 (l.map encHold)) (by first | (rw [stepOf, if_pos (by assumption)]; done) | (rw [stepOf, if_neg (by assumption), if_pos (by assumption)]; done) | (rw [stepOf, if_neg (by assumption), if_neg (by assumption)]; done) : (held h s.t s.c s.ps).1.h = (stepOf h s).1.h))), trivial⟩, (.inl (congrArg I (by first | (rw [stepOf, if_pos (by assumption)]; done) | (rw [stepOf, if_neg (by assumption), if_pos (by assumption)]; done) | (rw [stepOf, if_neg (by assumption), if_neg (by assumption)]; done) : (held h s.t s.c s.ps).2 = (stepOf h s).2))), trivial⟩
    · skip
      have g6 : s.k ≠ 1 := ne_of_beq_false (h4)
      refine T_skip ?_
      refine T_reg [{}, {}, {}, {}, {}, { d := some (.tup [(.agg [(.sl 2 ((settled h s.t (s.pd)).1.b.map encPay)), (.sl 4 ((settled h s.t (s.pd)).1.h.map encHold))]), (I (settled h s.t (s.pd)).2)]) }] [4, 5] [3, 2] (mk 38 [(4, (.one (.ref 4 0))), (5, (dt (I (settled h s.t (s.pd)).2)))] [(4, (.var [(.dat (.sl 2 ((settled h s.t (s.pd)).1.b.map encPay))), (.dat (.sl 4 ((settled h s.t (s.pd)).1.h.map encHold)))]))]) (True ∧ True ∧ True ∧ True ∧ True ∧ True ∧ True ∧ True ∧ True ∧ True ∧ True ∧ (Ret Try.prog 26 [(.agg [(.sl 2 (h.b.map encPay)), (.sl 4 (h.h.map encHold))]), (I s.t), (B (s.pd))] (.tup [(.agg [(.sl 2 ((settled h s.t (s.pd)).1.b.map encPay)), (.sl 4 ((settled h s.t (s.pd)).1.h.map encHold))]), (I (settled h s.t (s.pd)).2)])) ∧ True ∧ True ∧ True ∧ True ∧ True ∧ True ∧ True ∧ True ∧ True) (by kernel_rfl) ⟨trivial, trivial, trivial, trivial, trivial, trivial, trivial, trivial, trivial, trivial, trivial, (ret_settle h ((by assumption : Fits h)).1 ((by assumption : Fits h)).2.1 ((by assumption : Fits h)).2.2 _ _), trivial, trivial, trivial, trivial, trivial, trivial, trivial, trivial, trivial⟩ ?_
      refine T_ret ?_
      exact ret_here [(.agg [(.dat (.sl 2 ((settled h s.t (s.pd)).1.b.map encPay))), (.dat (.sl 4 ((settled h s.t (s.pd)).1.h.map encHold)))]), (dt (I (settled h s.t (s.pd)).2))] (by kernel_rfl) ⟨⟨(.inl (congrArg (fun l => D.sl 2 (l.map encPay)) (by first | (rw [stepOf, if_pos (by assumption)]; done) | (rw [stepOf, if_neg (by assumption), if_pos (by assumption)]; done) | (rw [stepOf, if_neg (by assumption), if_neg (by assumption)]; done) : (settled h s.t (s.pd)).1.b = (stepOf h s).1.b))), (.inl (congrArg (fun l => D.sl 4 (l.map encHold)) (by first | (rw [stepOf, if_pos (by assumption)]; done) | (rw [stepOf, if_neg (by assumption), if_pos (by assumption)]; done) | (rw [stepOf, if_neg (by assumption), if_neg (by assumption)]; done) : (settled h s.t (s.pd)).1.h = (stepOf h s).1.h))), trivial⟩, (.inl (congrArg I (by first | (rw [stepOf, if_pos (by assumption)]; done) | (rw [stepOf, if_neg (by assumption), if_pos (by assumption)]; done) | (rw [stepOf, if_neg (by assumption), if_neg (by assumption)]; done) : (settled h s.t (s.pd)).2 = (stepOf h s).2))), trivial⟩

theorem ret_run (cl : List Int) (l : List Step) (hcl : cl.length * 16 ≤ 140737488355328) (hl : l.length ≤ 140737488355328) (hp : ∀ s ∈ l, s.ps.length ≤ 140737488355328) : Ret Try.prog 29 [(.sl 1 (cl.map encI)), (.sl 6 (l.map encStep))] (.tup [(.agg [(.sl 2 ((runOf cl l).1.b.map encPay)), (.sl 4 ((runOf cl l).1.h.map encHold))]), (B ((runOf cl l).2))]) := by
  refine Ret.of_T Try.func29 (by kernel_rfl) rfl ?_
  refine T_turn [] [0, 1] [] (mk 38 [(0, (dt (.sl 1 (cl.map encI)))), (1, (dt (.sl 6 (l.map encStep))))] []) (by kernel_rfl) ?_
  refine T_reg [] [0, 1, 4] [] (mk 38 [(0, (dt (.sl 1 (cl.map encI)))), (1, (dt (.sl 6 (l.map encStep)))), (4, (.one (.ref 4 0)))] [(4, (.var [(.dat nilS), (.dat nilS)]))]) (True ∧ True ∧ True ∧ True ∧ True) (by kernel_rfl) ⟨trivial, trivial, trivial, trivial, trivial⟩ ?_
  refine T_reg [{}, { d := some (.tup [(.agg [(.sl 2 ((newB cl).map encPay)), (.sl 4 (([] : List Hold).map encHold))]), (I (newE cl))]) }] [1, 4, 6, 7] [] (mk 38 [(1, (dt (.sl 6 (l.map encStep)))), (4, (.one (.ref 4 0))), (6, (.one (.ref 6 0))), (7, (dt (I (newE cl))))] [(6, (.var [(.dat (.sl 2 ((newB cl).map encPay))), (.dat (.sl 4 (([] : List Hold).map encHold)))])), (4, (.var [(.dat nilS), (.dat nilS)]))]) (True ∧ True ∧ True ∧ (Ret Try.prog 12 [(.sl 1 (cl.map encI))] (.tup [(.agg [(.sl 2 ((newB cl).map encPay)), (.sl 4 (([] : List Hold).map encHold))]), (I (newE cl))])) ∧ True ∧ True ∧ True ∧ True ∧ True ∧ True ∧ True ∧ True ∧ True ∧ True ∧ True ∧ True ∧ True) (by kernel_rfl) ⟨trivial, trivial, trivial, (ret_new cl (by first | decide | omega)), trivial, trivial, trivial, trivial, trivial, trivial, trivial, trivial, trivial, trivial, trivial, trivial, trivial⟩ ?_
  refine T_seq ?_
  refine T_reg [] [1, 4, 6, 17] [] (mk 38 [(1, (dt (.sl 6 (l.map encStep)))), (4, (.one (.ref 4 0))), (6, (.one (.ref 6 0))), (17, (dt (B ((newE cl) != 0))))] [(6, (.var [(.dat (.sl 2 ((newB cl).map encPay))), (.dat (.sl 4 (([] : List Hold).map encHold)))])), (4, (.var [(.dat nilS), (.dat nilS)]))]) (True ∧ True ∧ True ∧ True ∧ True) (by kernel_rfl) ⟨trivial, trivial, trivial, trivial, trivial⟩ ?_
  refine T_cond ((newE cl) != 0) (by kernel_rfl) (fun h1 => ?_) (fun h1 => ?_)
  · skip
    have g2 : (newE cl) ≠ 0 := bne_iff_ne.1 (h1)
    refine T_reg [] [4, 5] [6] (mk 38 [(4, (.one (.ref 4 0))), (5, (dt (B false)))] [(4, (.var [(.dat nilS), (.dat nilS)]))]) (True ∧ True ∧ True ∧ True ∧ True ∧ True ∧ True) (by kernel_rfl) ⟨trivial, trivial, trivial, trivial, trivial, trivial, trivial⟩ ?_
    refine T_ret ?_
    exact ret_here [(.agg [(.dat nilS), (.dat nilS)]), (dt (B false))] (by kernel_rfl) ⟨⟨(.inr ⟨rfl, 2, (by show D.sl _ _ = _; exact congrArg (fun l => D.sl 2 (l.map encPay)) (by first | (unfold runOf; rw [if_pos (by assumption)]; first | done | rfl) | (unfold runOf; rw [if_neg (by simp_all)]; first | done | (rw [List.drop_eq_nil_of_le (by omega)] at iv; rw [← iv]; first | done | rfl)) : (runOf cl l).1.b = []))⟩), (.inr ⟨rfl, 4, (by show D.sl _ _ = _; exact congrArg (fun l => D.sl 4 (l.map encHold)) (by first | (unfold runOf; rw [if_pos (by assumption)]; first | done | rfl) | (unfold runOf; rw [if_neg (by simp_all)]; first | done | (rw [List.drop_eq_nil_of_le (by omega)] at iv; rw [← iv]; first | done | rfl)) : (runOf cl l).1.h = []))⟩), trivial⟩, (.inl (congrArg B (by first | (unfold runOf; rw [if_pos (by assumption)]; first | done | rfl) | (unfold runOf; rw [if_neg (by simp_all)]; first | done | (rw [List.drop_eq_nil_of_le (by omega)] at iv; rw [← iv]; first | done | rfl)) : false = ((runOf cl l).2)))), trivial⟩
  · skip
    have g3 : (newE cl) = 0 := bne_f (h1)
    refine T_skip ?_
    refine T_seq ?_
    refine T_reg [] [1, 4, 6, 8] [] (mk 38 [(1, (dt (.sl 6 (l.map encStep)))), (4, (.one (.ref 4 0))), (6, (.one (.ref 6 0))), (8, (dt (I 0)))] [(6, (.var [(.dat (.sl 2 ((newB cl).map encPay))), (.dat (.sl 4 (([] : List Hold).map encHold)))])), (4, (.var [(.dat nilS), (.dat nilS)]))]) (True ∧ True ∧ True) (by kernel_rfl) ⟨trivial, trivial, trivial⟩ ?_
    refine T_block ?_
    refine T_turn [] [1, 4, 6, 8] [] ((fun ((k, x) : Nat × House) => (mk 38 [(1, (dt (.sl 6 (l.map encStep)))), (4, (.one (.ref 4 0))), (6, (.one (.ref 6 0))), (8, (dt (I ((k : Nat) : Int))))] [(6, (.var [(.dat (.sl 2 (x.b.map encPay))), (.dat (.sl 4 (x.h.map encHold)))])), (4, (.var [(.dat nilS), (.dat nilS)]))])) (0, (⟨newB cl, []⟩ : House))) (by kernel_rfl) (T_loop (α := Nat × House) (fun ((k, x) : Nat × House) => (mk 38 [(1, (dt (.sl 6 (l.map encStep)))), (4, (.one (.ref 4 0))), (6, (.one (.ref 6 0))), (8, (dt (I ((k : Nat) : Int))))] [(6, (.var [(.dat (.sl 2 (x.b.map encPay))), (.dat (.sl 4 (x.h.map encHold)))])), (4, (.var [(.dat nilS), (.dat nilS)]))])) (fun ((k, x) : Nat × House) => (k ≤ (l).length) ∧ (runFrom x (l.drop k) = runFrom ⟨newB cl, []⟩ l) ∧ (Fits x) ∧ True) (fun ((k, x) : Nat × House) => (l).length - k) (0, (⟨newB cl, []⟩ : House)) ⟨Nat.zero_le _, rfl, fits_newB (by omega), trivial⟩ ?_)
    rintro ⟨k, x⟩ ⟨ik, iv, fx, _⟩
    refine T_seq ?_
    refine T_reg [{}, {}, { d := some (I ((l.length : Nat) : Int)) }] [1, 4, 6, 8, 22] [] (mk 38 [(1, (dt (.sl 6 (l.map encStep)))), (4, (.one (.ref 4 0))), (6, (.one (.ref 6 0))), (8, (dt (I ((k : Nat) : Int)))), (22, (dt (B (decide (((k : Nat) : Int) < ((l.length : Nat) : Int))))))] [(6, (.var [(.dat (.sl 2 (x.b.map encPay))), (.dat (.sl 4 (x.h.map encHold)))])), (4, (.var [(.dat nilS), (.dat nilS)]))]) (True ∧ True ∧ True ∧ True ∧ True ∧ (True ∧ D.int .i64 ((l.map encStep).length : Int) = (I ((l.length : Nat) : Int))) ∧ True ∧ True ∧ True) (by kernel_rfl) ⟨trivial, trivial, trivial, trivial, trivial, ⟨trivial, by rw [List.length_map]⟩, trivial, trivial, trivial⟩ ?_
    refine T_cond (decide (((k : Nat) : Int) < ((l.length : Nat) : Int))) (by kernel_rfl) (fun h4 => ?_) (fun h4 => ?_)
    · skip
      have g5 : ((k : Nat) : Int) < ((l.length : Nat) : Int) := of_decide_eq_true (h4)
      refine T_skip ?_
      refine T_seq ?_
      refine T_block ?_
      have lt6 : k < (l).length := by first | omega | (simp only [List.length_set, List.length_map, List.length_append, List.length_cons, List.length_nil] at *; omega)
      obtain ⟨x7, hx8⟩ : ∃ x, (l)[k]? = some x := ⟨_, List.getElem?_eq_getElem lt6⟩
      refine T_regDS 12 9 10 9 26 26 (.tmp 9) (.tmp 32) [{}, {}, {}, { d := some (.agg [(I x7.k), (I x7.c), (I x7.a), (I x7.t), (.sl 2 (x7.ps.map encPay)), (B (x7.pd))]) }, {}, { d := some (.tup [(.agg [(.sl 2 ((stepOf x x7).1.b.map encPay)), (.sl 4 ((stepOf x x7).1.h.map encHold))]), (I (stepOf x x7).2)]) }] [1, 4, 6, 8, 9, 10] [] (mk 38 [(1, (dt (.sl 6 (l.map encStep)))), (4, (.one (.ref 4 0))), (6, (.one (.ref 6 0))), (8, (dt (I ((k : Nat) : Int)))), (9, (.one (.ref 9 0))), (10, (dt (I (stepOf x x7).2)))] [(9, (.var [(.dat (.sl 2 ((stepOf x x7).1.b.map encPay))), (.dat (.sl 4 ((stepOf x x7).1.h.map encHold)))])), (6, (.var [(.dat (.sl 2 (x.b.map encPay))), (.dat (.sl 4 (x.h.map encHold)))])), (4, (.var [(.dat nilS), (.dat nilS)]))]) ((True ∧ True ∧ True ∧ True ∧ True ∧ True ∧ True ∧ (0 ≤ ((k : Nat) : Int) ∧ (l.map encStep)[k]? = some (.agg [(I x7.k), (I x7.c), (I x7.a), (I x7.t), (.sl 2 (x7.ps.map encPay)), (B (x7.pd))])) ∧ True ∧ True ∧ True ∧ (Ret Try.prog 28 [(.agg [(.sl 2 (x.b.map encPay)), (.sl 4 (x.h.map encHold))]), (.agg [(I x7.k), (I x7.c), (I x7.a), (I x7.t), (.sl 2 (x7.ps.map encPay)), (B (x7.pd))])] (.tup [(.agg [(.sl 2 ((stepOf x x7).1.b.map encPay)), (.sl 4 ((stepOf x x7).1.h.map encHold))]), (I (stepOf x x7).2)])) ∧ True ∧ True ∧ True ∧ True ∧ True ∧ True ∧ True ∧ True ∧ True) ∧ (True ∧ True ∧ True ∧ True ∧ True ∧ True ∧ True ∧ (0 ≤ ((k : Nat) : Int) ∧ (l.map encStep)[k]? = some (.agg [(I x7.k), (I x7.c), (I x7.a), (I x7.t), (.sl 2 (x7.ps.map encPay)), (B (x7.pd))])) ∧ True ∧ True ∧ True ∧ (Ret Try.prog 28 [(.agg [(.sl 2 (x.b.map encPay)), (.sl 4 (x.h.map encHold))]), (.agg [(I x7.k), (I x7.c), (I x7.a), (I x7.t), (.sl 2 (x7.ps.map encPay)), (B (x7.pd))])] (.tup [(.agg [(.sl 2 ((stepOf x x7).1.b.map encPay)), (.sl 4 ((stepOf x x7).1.h.map encHold))]), (I (stepOf x x7).2)])) ∧ True ∧ True ∧ True ∧ True ∧ True ∧ True ∧ True ∧ True ∧ True) ∧ (True ∧ True ∧ True ∧ True ∧ True ∧ True ∧ True ∧ (0 ≤ ((k : Nat) : Int) ∧ (l.map encStep)[k]? = some (.agg [(I x7.k), (I x7.c), (I x7.a), (I x7.t), (.sl 2 (x7.ps.map encPay)), (B (x7.pd))])) ∧ True ∧ True ∧ True ∧ (Ret Try.prog 28 [(.agg [(.sl 2 (x.b.map encPay)), (.sl 4 (x.h.map encHold))]), (.agg [(I x7.k), (I x7.c), (I x7.a), (I x7.t), (.sl 2 (x7.ps.map encPay)), (B (x7.pd))])] (.tup [(.agg [(.sl 2 ((stepOf x x7).1.b.map encPay)), (.sl 4 ((stepOf x x7).1.h.map encHold))]), (I (stepOf x x7).2)])) ∧ True ∧ True ∧ True ∧ True ∧ True ∧ True ∧ True ∧ True ∧ True) ∧ True ∧ True) (by kernel_rfl) (by kernel_rfl) (by decide) (by kernel_rfl) (by decide) (by kernel_rfl) (by kernel_rfl) (by kernel_rfl) (by kernel_rfl) ⟨⟨trivial, trivial, trivial, trivial, trivial, trivial, trivial, ⟨by omega, by rw [List.getElem?_map, hx8]; rfl⟩, trivial, trivial, trivial, (ret_step x (by exact fx : Fits x) x7 (by exact hp _ (List.mem_of_getElem? (by assumption)))), trivial, trivial, trivial, trivial, trivial, trivial, trivial, trivial, trivial⟩, ⟨trivial, trivial, trivial, trivial, trivial, trivial, trivial, ⟨by omega, by rw [List.getElem?_map, hx8]; rfl⟩, trivial, trivial, trivial, (ret_step x (by exact fx : Fits x) x7 (by exact hp _ (List.mem_of_getElem? (by assumption)))), trivial, trivial, trivial, trivial, trivial, trivial, trivial, trivial, trivial⟩, ⟨trivial, trivial, trivial, trivial, trivial, trivial, trivial, ⟨by omega, by rw [List.getElem?_map, hx8]; rfl⟩, trivial, trivial, trivial, (ret_step x (by exact fx : Fits x) x7 (by exact hp _ (List.mem_of_getElem? (by assumption)))), trivial, trivial, trivial, trivial, trivial, trivial, trivial, trivial, trivial⟩, trivial, trivial⟩ ?_
      refine T_reg [] [1, 4, 6, 8, 9, 35] [] (mk 38 [(1, (dt (.sl 6 (l.map encStep)))), (4, (.one (.ref 4 0))), (6, (.one (.ref 6 0))), (8, (dt (I ((k : Nat) : Int)))), (9, (.one (.ref 9 0))), (35, (dt (B ((stepOf x x7).2 == 0))))] [(9, (.var [(.dat (.sl 2 ((stepOf x x7).1.b.map encPay))), (.dat (.sl 4 ((stepOf x x7).1.h.map encHold)))])), (6, (.var [(.dat (.sl 2 (x.b.map encPay))), (.dat (.sl 4 (x.h.map encHold)))])), (4, (.var [(.dat nilS), (.dat nilS)]))]) (True ∧ True ∧ True ∧ True ∧ True) (by kernel_rfl) ⟨trivial, trivial, trivial, trivial, trivial⟩ ?_
      refine T_cond ((stepOf x x7).2 == 0) (by kernel_rfl) (fun h9 => ?_) (fun h9 => ?_)
      · skip
        have g10 : (stepOf x x7).2 = 0 := eq_of_beq (h9)
        refine T_regE [] (mk 38 [(1, (dt (.sl 6 (l.map encStep)))), (4, (.one (.ref 4 0))), (6, (.one (.ref 6 0))), (8, (dt (I ((k : Nat) : Int)))), (9, (.one (.ref 9 0))), (35, (dt (B ((stepOf x x7).2 == 0)))), (36, (.agg [(.dat (.sl 2 ((stepOf x x7).1.b.map encPay))), (.dat (.sl 4 ((stepOf x x7).1.h.map encHold)))]))] [(9, (.var [(.dat (.sl 2 ((stepOf x x7).1.b.map encPay))), (.dat (.sl 4 ((stepOf x x7).1.h.map encHold)))])), (6, (.var [(.dat (.sl 2 ((stepOf x x7).1.b.map encPay))), (.dat (.sl 4 ((stepOf x x7).1.h.map encHold)))])), (4, (.var [(.dat nilS), (.dat nilS)]))]) (True ∧ True ∧ True ∧ True ∧ True) (by kernel_rfl) ⟨trivial, trivial, trivial, trivial, trivial⟩ ?_
        refine T_regE [{}, { d := some (I ((k + 1 : Nat) : Int)) }] (mk 38 [(1, (dt (.sl 6 (l.map encStep)))), (4, (.one (.ref 4 0))), (6, (.one (.ref 6 0))), (8, (dt (I ((k + 1 : Nat) : Int)))), (9, (.one (.ref 9 0))), (23, (dt (I ((k : Nat) : Int)))), (24, (dt (I ((k + 1 : Nat) : Int)))), (35, (dt (B ((stepOf x x7).2 == 0)))), (36, (.agg [(.dat (.sl 2 ((stepOf x x7).1.b.map encPay))), (.dat (.sl 4 ((stepOf x x7).1.h.map encHold)))]))] [(9, (.var [(.dat (.sl 2 ((stepOf x x7).1.b.map encPay))), (.dat (.sl 4 ((stepOf x x7).1.h.map encHold)))])), (6, (.var [(.dat (.sl 2 ((stepOf x x7).1.b.map encPay))), (.dat (.sl 4 ((stepOf x x7).1.h.map encHold)))])), (4, (.var [(.dat nilS), (.dat nilS)]))]) (True ∧ True ∧ True ∧ (IntKind.i64.wrap (((k : Nat) : Int) + 1) = ((k + 1 : Nat) : Int)) ∧ True ∧ True ∧ True) (by kernel_rfl) ⟨trivial, trivial, trivial, (by rw [i64_wrap (by omega) (by omega)]; omega), trivial, trivial, trivial⟩ ?_
        refine Exists.intro (k + 1, (stepOf x x7).1) ⟨⟨by omega, by first | exact run_step_ok iv hx8 (by assumption) | exact run_step_no iv hx8 (by assumption), by first | exact fx | exact fits_step fx (hp _ (List.mem_of_getElem? (by assumption))), trivial⟩, by first | omega | (dsimp only; omega), le_turn [] [1, 4, 6, 8] [9] (by kernel_rfl)⟩
      · skip
        have g11 : (stepOf x x7).2 ≠ 0 := ne_of_beq_false (h9)
        refine T_skip ?_
        refine T_regE [{}, { d := some (I ((k + 1 : Nat) : Int)) }] (mk 38 [(1, (dt (.sl 6 (l.map encStep)))), (4, (.one (.ref 4 0))), (6, (.one (.ref 6 0))), (8, (dt (I ((k + 1 : Nat) : Int)))), (9, (.one (.ref 9 0))), (23, (dt (I ((k : Nat) : Int)))), (24, (dt (I ((k + 1 : Nat) : Int)))), (35, (dt (B ((stepOf x x7).2 == 0))))] [(9, (.var [(.dat (.sl 2 ((stepOf x x7).1.b.map encPay))), (.dat (.sl 4 ((stepOf x x7).1.h.map encHold)))])), (6, (.var [(.dat (.sl 2 (x.b.map encPay))), (.dat (.sl 4 (x.h.map encHold)))])), (4, (.var [(.dat nilS), (.dat nilS)]))]) (True ∧ True ∧ True ∧ (IntKind.i64.wrap (((k : Nat) : Int) + 1) = ((k + 1 : Nat) : Int)) ∧ True ∧ True ∧ True) (by kernel_rfl) ⟨trivial, trivial, trivial, (by rw [i64_wrap (by omega) (by omega)]; omega), trivial, trivial, trivial⟩ ?_
        refine Exists.intro (k + 1, x) ⟨⟨by omega, by first | exact run_step_ok iv hx8 (by assumption) | exact run_step_no iv hx8 (by assumption), by first | exact fx | exact fits_step fx (hp _ (List.mem_of_getElem? (by assumption))), trivial⟩, by first | omega | (dsimp only; omega), le_turn [] [1, 4, 6, 8] [9] (by kernel_rfl)⟩
    · skip
      have g12 : ¬ (((k : Nat) : Int) < ((l.length : Nat) : Int)) := of_decide_eq_false (h4)
      refine T_exit ?_
      refine T_reg [] [4, 5] [6] (mk 38 [(4, (.one (.ref 4 0))), (5, (dt (B true)))] [(4, (.var [(.dat (.sl 2 (x.b.map encPay))), (.dat (.sl 4 (x.h.map encHold)))]))]) (True ∧ True ∧ True ∧ True ∧ True ∧ True ∧ True) (by kernel_rfl) ⟨trivial, trivial, trivial, trivial, trivial, trivial, trivial⟩ ?_
      refine T_ret ?_
      exact ret_here [(.agg [(.dat (.sl 2 (x.b.map encPay))), (.dat (.sl 4 (x.h.map encHold)))]), (dt (B true))] (by kernel_rfl) ⟨⟨(.inl (congrArg (fun l => D.sl 2 (l.map encPay)) (by first | (unfold runOf; rw [if_pos (by assumption)]; first | done | rfl) | (unfold runOf; rw [if_neg (by simp_all)]; first | done | (rw [List.drop_eq_nil_of_le (by omega)] at iv; rw [← iv]; first | done | rfl)) : x.b = (runOf cl l).1.b))), (.inl (congrArg (fun l => D.sl 4 (l.map encHold)) (by first | (unfold runOf; rw [if_pos (by assumption)]; first | done | rfl) | (unfold runOf; rw [if_neg (by simp_all)]; first | done | (rw [List.drop_eq_nil_of_le (by omega)] at iv; rw [← iv]; first | done | rfl)) : x.h = (runOf cl l).1.h))), trivial⟩, (.inl (congrArg B (by first | (unfold runOf; rw [if_pos (by assumption)]; first | done | rfl) | (unfold runOf; rw [if_neg (by simp_all)]; first | done | (rw [List.drop_eq_nil_of_le (by omega)] at iv; rw [← iv]; first | done | rfl)) : true = ((runOf cl l).2)))), trivial⟩

theorem ret_balances (l : List Step) (a b : Int) (hl : l.length ≤ 140737488355328) (hp : ∀ s ∈ l, s.ps.length ≤ 140737488355328) : Ret Try.prog 32 [(.sl 6 (l.map encStep)), (I a), (I b)] (B (balancesOf l a b)) := by
  refine Ret.of_T Try.func32 (by kernel_rfl) rfl ?_
  refine T_turn [] [0, 1, 2] [] (mk 46 [(0, (dt (.sl 6 (l.map encStep)))), (1, (dt (I a))), (2, (dt (I b)))] []) (by kernel_rfl) ?_
  refine T_reg [] [0, 1, 2] [] (mk 46 [(0, (dt (.sl 6 (l.map encStep)))), (1, (dt (I a))), (2, (dt (I b)))] []) (True ∧ True ∧ True) (by kernel_rfl) ⟨trivial, trivial, trivial⟩ ?_
  refine T_seq (T_parts ?_)
  refine TL_part 2 [] (mk 46 [(0, (dt (.sl 6 (l.map encStep)))), (1, (dt (I a))), (2, (dt (I b))), (14, (.one (.own 14))), (15, (dt (.sl 6 (l.map encStep))))] [(14, (.row 3 1 ([3, 5].map encI)))]) (True ∧ (dfill (fun i => some (i * 1, 1)) (List.replicate (2 * 1) .junk) [(0, [(.dat (I 3))]), (1, [(.dat (I 5))])] = some ((flat ([3, 5].map encI)).map .dat)) ∧ True ∧ True ∧ True) (by kernel_rfl) ⟨trivial, rfl, trivial, trivial, trivial⟩ rfl ?_
  refine TL_turn [14] [0, 1, 2, 14, 15] [] (mk 46 [(0, (dt (.sl 6 (l.map encStep)))), (1, (dt (I a))), (2, (dt (I b))), (14, (dt (.sl 1 ([3, 5].map encI)))), (15, (dt (.sl 6 (l.map encStep))))] []) (by kernel_rfl) ?_
  refine TL_part 7 [{ d := some (.tup [(.agg [(.sl 2 ((runOf [3, 5] l).1.b.map encPay)), (.sl 4 ((runOf [3, 5] l).1.h.map encHold))]), (B ((runOf [3, 5] l).2))]) }] (mk 46 [(0, (dt (.sl 6 (l.map encStep)))), (1, (dt (I a))), (2, (dt (I b))), (7, (.one (.ref 7 0))), (8, (dt (B ((runOf [3, 5] l).2)))), (13, (.tup [(true, [(.dat (.sl 2 ((runOf [3, 5] l).1.b.map encPay))), (.dat (.sl 4 ((runOf [3, 5] l).1.h.map encHold)))]), (false, [(.dat (B ((runOf [3, 5] l).2)))])])), (14, (dt (.sl 1 ([3, 5].map encI)))), (15, (dt (.sl 6 (l.map encStep)))), (16, (.tup [(true, [(.dat (.sl 2 ((runOf [3, 5] l).1.b.map encPay))), (.dat (.sl 4 ((runOf [3, 5] l).1.h.map encHold)))]), (false, [(.dat (B ((runOf [3, 5] l).2)))])])), (17, (.agg [(.dat (.sl 2 ((runOf [3, 5] l).1.b.map encPay))), (.dat (.sl 4 ((runOf [3, 5] l).1.h.map encHold)))])), (18, (dt (B ((runOf [3, 5] l).2))))] [(7, (.var [(.dat (.sl 2 ((runOf [3, 5] l).1.b.map encPay))), (.dat (.sl 4 ((runOf [3, 5] l).1.h.map encHold)))]))]) (True ∧ (Ret Try.prog 29 [(.sl 1 ([3, 5].map encI)), (.sl 6 (l.map encStep))] (.tup [(.agg [(.sl 2 ((runOf [3, 5] l).1.b.map encPay)), (.sl 4 ((runOf [3, 5] l).1.h.map encHold))]), (B ((runOf [3, 5] l).2))])) ∧ True ∧ True ∧ True ∧ True ∧ True ∧ True ∧ True ∧ True ∧ True ∧ True ∧ True ∧ True ∧ True) (by kernel_rfl) ⟨trivial, (ret_run [3, 5] l (by first | decide | omega) (by first | assumption | omega) (by assumption)), trivial, trivial, trivial, trivial, trivial, trivial, trivial, trivial, trivial, trivial, trivial, trivial, trivial⟩ rfl ?_
  refine TL_nilQ ?_
  refine T_turn [] [1, 2, 7, 8] [] (mk 46 [(1, (dt (I a))), (2, (dt (I b))), (7, (.one (.ref 7 0))), (8, (dt (B ((runOf [3, 5] l).2))))] [(7, (.var [(.dat (.sl 2 ((runOf [3, 5] l).1.b.map encPay))), (.dat (.sl 4 ((runOf [3, 5] l).1.h.map encHold)))]))]) (by kernel_rfl) ?_
  refine T_reg [{}, { d := some (.tup [(I (bal 3 (runOf [3, 5] l).1.b).1), (B ((bal 3 (runOf [3, 5] l).1.b).2))]) }] [1, 2, 7, 8, 9, 10] [] (mk 46 [(1, (dt (I a))), (2, (dt (I b))), (7, (.one (.ref 7 0))), (8, (dt (B ((runOf [3, 5] l).2)))), (9, (dt (I (bal 3 (runOf [3, 5] l).1.b).1))), (10, (dt (B ((bal 3 (runOf [3, 5] l).1.b).2))))] [(7, (.var [(.dat (.sl 2 ((runOf [3, 5] l).1.b.map encPay))), (.dat (.sl 4 ((runOf [3, 5] l).1.h.map encHold)))]))]) (True ∧ True ∧ True ∧ (Ret Try.prog 14 [(.agg [(.sl 2 ((runOf [3, 5] l).1.b.map encPay)), (.sl 4 ((runOf [3, 5] l).1.h.map encHold))]), (I 3)] (.tup [(I (bal 3 (runOf [3, 5] l).1.b).1), (B ((bal 3 (runOf [3, 5] l).1.b).2))])) ∧ True ∧ True ∧ True ∧ True ∧ True ∧ True ∧ True ∧ True ∧ True ∧ True ∧ True) (by kernel_rfl) ⟨trivial, trivial, trivial, (ret_balance (runOf [3, 5] l).1 3 (by exact fits_runOf (by decide) hp : Fits (runOf [3, 5] l).1).1), trivial, trivial, trivial, trivial, trivial, trivial, trivial, trivial, trivial, trivial, trivial⟩ ?_
  refine T_reg [{}, { d := some (.tup [(I (bal 5 (runOf [3, 5] l).1.b).1), (B ((bal 5 (runOf [3, 5] l).1.b).2))]) }] [1, 2, 8, 9, 10, 11, 12] [7] (mk 46 [(1, (dt (I a))), (2, (dt (I b))), (8, (dt (B ((runOf [3, 5] l).2)))), (9, (dt (I (bal 3 (runOf [3, 5] l).1.b).1))), (10, (dt (B ((bal 3 (runOf [3, 5] l).1.b).2)))), (11, (dt (I (bal 5 (runOf [3, 5] l).1.b).1))), (12, (dt (B ((bal 5 (runOf [3, 5] l).1.b).2))))] []) (True ∧ True ∧ True ∧ (Ret Try.prog 14 [(.agg [(.sl 2 ((runOf [3, 5] l).1.b.map encPay)), (.sl 4 ((runOf [3, 5] l).1.h.map encHold))]), (I 5)] (.tup [(I (bal 5 (runOf [3, 5] l).1.b).1), (B ((bal 5 (runOf [3, 5] l).1.b).2))])) ∧ True ∧ True ∧ True ∧ True ∧ True ∧ True ∧ True ∧ True ∧ True ∧ True ∧ True) (by kernel_rfl) ⟨trivial, trivial, trivial, (ret_balance (runOf [3, 5] l).1 5 (by exact fits_runOf (by decide) hp : Fits (runOf [3, 5] l).1).1), trivial, trivial, trivial, trivial, trivial, trivial, trivial, trivial, trivial, trivial, trivial⟩ ?_
  rcases Bool.eq_false_or_eq_true ((runOf [3, 5] l).2) with h1 | h1
  · skip
    rcases Bool.eq_false_or_eq_true ((bal 3 (runOf [3, 5] l).1.b).1 == a) with h2 | h2
    · skip
      have g3 : (bal 3 (runOf [3, 5] l).1.b).1 = a := eq_of_beq (h2)
      rcases Bool.eq_false_or_eq_true ((bal 5 (runOf [3, 5] l).1.b).1 == b) with h4 | h4
      · skip
        have g5 : (bal 5 (runOf [3, 5] l).1.b).1 = b := eq_of_beq (h4)
        rcases Bool.eq_false_or_eq_true ((bal 3 (runOf [3, 5] l).1.b).2) with h6 | h6
        · skip
          refine T_reg [{}, {}, {}, {}, {}, { d := some (B true) }, {}, {}, {}, {}, { d := some (B true) }, {}, {}, { d := some (B true) }, {}, {}, { d := some (B true) }] [6] [] (mk 46 [(6, (dt (B ((bal 5 (runOf [3, 5] l).1.b).2))))] []) (True ∧ True ∧ True ∧ True ∧ ((((runOf [3, 5] l).2) == true) = true) ∧ True ∧ ((((runOf [3, 5] l).2) == true) = true) ∧ True ∧ ((((runOf [3, 5] l).2) == true) = true) ∧ True ∧ True ∧ (((runOf [3, 5] l).2) = true) ∧ True ∧ True ∧ ((((bal 3 (runOf [3, 5] l).1.b).1 == a) == true) = true) ∧ True ∧ ((((bal 3 (runOf [3, 5] l).1.b).1 == a) == true) = true) ∧ True ∧ ((((bal 3 (runOf [3, 5] l).1.b).1 == a) == true) = true) ∧ True ∧ True ∧ (((bal 3 (runOf [3, 5] l).1.b).1 == a) = true) ∧ True ∧ True ∧ ((((bal 5 (runOf [3, 5] l).1.b).1 == b) == true) = true) ∧ True ∧ True ∧ (((bal 5 (runOf [3, 5] l).1.b).1 == b) = true) ∧ True ∧ True ∧ ((((bal 3 (runOf [3, 5] l).1.b).2) == true) = true) ∧ True ∧ True ∧ (((bal 3 (runOf [3, 5] l).1.b).2) = true) ∧ True ∧ True ∧ True) (by kernel_rfl) ⟨trivial, trivial, trivial, trivial, (by rw [show ((runOf [3, 5] l).2) = true from h1]; rfl), trivial, (by rw [show ((runOf [3, 5] l).2) = true from h1]; rfl), trivial, (by rw [show ((runOf [3, 5] l).2) = true from h1]; rfl), trivial, trivial, h1, trivial, trivial, (by rw [show ((bal 3 (runOf [3, 5] l).1.b).1 == a) = true from h2]; rfl), trivial, (by rw [show ((bal 3 (runOf [3, 5] l).1.b).1 == a) = true from h2]; rfl), trivial, (by rw [show ((bal 3 (runOf [3, 5] l).1.b).1 == a) = true from h2]; rfl), trivial, trivial, h2, trivial, trivial, (by rw [show ((bal 5 (runOf [3, 5] l).1.b).1 == b) = true from h4]; rfl), trivial, trivial, h4, trivial, trivial, (by rw [show ((bal 3 (runOf [3, 5] l).1.b).2) = true from h6]; rfl), trivial, trivial, h6, trivial, trivial, trivial⟩ ?_
          refine T_ret ?_
          exact ret_here [(dt (B ((bal 5 (runOf [3, 5] l).1.b).2)))] (by kernel_rfl) (.inl (congrArg B (by simp_all [balancesOf] : ((bal 5 (runOf [3, 5] l).1.b).2) = (balancesOf l a b))))
        · skip
          refine T_reg [{}, {}, {}, {}, {}, { d := some (B true) }, {}, {}, {}, {}, { d := some (B true) }, {}, {}, { d := some (B true) }, {}, { g := false }, { d := some (B false) }] [6] [] (mk 46 [(6, (dt (B false)))] []) (True ∧ True ∧ True ∧ True ∧ ((((runOf [3, 5] l).2) == true) = true) ∧ True ∧ ((((runOf [3, 5] l).2) == true) = true) ∧ True ∧ ((((runOf [3, 5] l).2) == true) = true) ∧ True ∧ True ∧ (((runOf [3, 5] l).2) = true) ∧ True ∧ True ∧ ((((bal 3 (runOf [3, 5] l).1.b).1 == a) == true) = true) ∧ True ∧ ((((bal 3 (runOf [3, 5] l).1.b).1 == a) == true) = true) ∧ True ∧ ((((bal 3 (runOf [3, 5] l).1.b).1 == a) == true) = true) ∧ True ∧ True ∧ (((bal 3 (runOf [3, 5] l).1.b).1 == a) = true) ∧ True ∧ True ∧ ((((bal 5 (runOf [3, 5] l).1.b).1 == b) == true) = true) ∧ True ∧ True ∧ (((bal 5 (runOf [3, 5] l).1.b).1 == b) = true) ∧ True ∧ True ∧ ((((bal 3 (runOf [3, 5] l).1.b).2) == true) = false) ∧ True ∧ (((bal 3 (runOf [3, 5] l).1.b).2) = false) ∧ True ∧ True ∧ True) (by kernel_rfl) ⟨trivial, trivial, trivial, trivial, (by rw [show ((runOf [3, 5] l).2) = true from h1]; rfl), trivial, (by rw [show ((runOf [3, 5] l).2) = true from h1]; rfl), trivial, (by rw [show ((runOf [3, 5] l).2) = true from h1]; rfl), trivial, trivial, h1, trivial, trivial, (by rw [show ((bal 3 (runOf [3, 5] l).1.b).1 == a) = true from h2]; rfl), trivial, (by rw [show ((bal 3 (runOf [3, 5] l).1.b).1 == a) = true from h2]; rfl), trivial, (by rw [show ((bal 3 (runOf [3, 5] l).1.b).1 == a) = true from h2]; rfl), trivial, trivial, h2, trivial, trivial, (by rw [show ((bal 5 (runOf [3, 5] l).1.b).1 == b) = true from h4]; rfl), trivial, trivial, h4, trivial, trivial, (by rw [show ((bal 3 (runOf [3, 5] l).1.b).2) = false from h6]; rfl), trivial, h6, trivial, trivial, trivial⟩ ?_
          refine T_ret ?_
          exact ret_here [(dt (B false))] (by kernel_rfl) (.inl (congrArg B (by simp_all [balancesOf] : false = (balancesOf l a b))))
      · skip
        have g7 : (bal 5 (runOf [3, 5] l).1.b).1 ≠ b := ne_of_beq_false (h4)
        refine T_reg [{}, {}, {}, {}, {}, { d := some (B true) }, {}, {}, {}, {}, { d := some (B true) }, {}, { g := false }, { d := some (B false) }, {}, { g := false }, { d := some (B false) }] [6] [] (mk 46 [(6, (dt (B false)))] []) (True ∧ True ∧ True ∧ True ∧ ((((runOf [3, 5] l).2) == true) = true) ∧ True ∧ ((((runOf [3, 5] l).2) == true) = true) ∧ True ∧ ((((runOf [3, 5] l).2) == true) = true) ∧ True ∧ True ∧ (((runOf [3, 5] l).2) = true) ∧ True ∧ True ∧ ((((bal 3 (runOf [3, 5] l).1.b).1 == a) == true) = true) ∧ True ∧ ((((bal 3 (runOf [3, 5] l).1.b).1 == a) == true) = true) ∧ True ∧ ((((bal 3 (runOf [3, 5] l).1.b).1 == a) == true) = true) ∧ True ∧ True ∧ (((bal 3 (runOf [3, 5] l).1.b).1 == a) = true) ∧ True ∧ True ∧ ((((bal 5 (runOf [3, 5] l).1.b).1 == b) == true) = false) ∧ True ∧ (((bal 5 (runOf [3, 5] l).1.b).1 == b) = false) ∧ True ∧ True ∧ ((false == true) = false) ∧ True ∧ (false = false) ∧ True ∧ True ∧ True) (by kernel_rfl) ⟨trivial, trivial, trivial, trivial, (by rw [show ((runOf [3, 5] l).2) = true from h1]; rfl), trivial, (by rw [show ((runOf [3, 5] l).2) = true from h1]; rfl), trivial, (by rw [show ((runOf [3, 5] l).2) = true from h1]; rfl), trivial, trivial, h1, trivial, trivial, (by rw [show ((bal 3 (runOf [3, 5] l).1.b).1 == a) = true from h2]; rfl), trivial, (by rw [show ((bal 3 (runOf [3, 5] l).1.b).1 == a) = true from h2]; rfl), trivial, (by rw [show ((bal 3 (runOf [3, 5] l).1.b).1 == a) = true from h2]; rfl), trivial, trivial, h2, trivial, trivial, (by rw [show ((bal 5 (runOf [3, 5] l).1.b).1 == b) = false from h4]; rfl), trivial, h4, trivial, trivial, (by rw [show false = false from rfl]; rfl), trivial, rfl, trivial, trivial, trivial⟩ ?_
        refine T_ret ?_
        exact ret_here [(dt (B false))] (by kernel_rfl) (.inl (congrArg B (by simp_all [balancesOf] : false = (balancesOf l a b))))
    · skip
      have g8 : (bal 3 (runOf [3, 5] l).1.b).1 ≠ a := ne_of_beq_false (h2)
      refine T_reg [{}, {}, {}, {}, {}, { d := some (B true) }, {}, { g := false }, { g := false }, { g := false }, { d := some (B false) }, {}, { g := false }, { d := some (B false) }, {}, { g := false }, { d := some (B false) }] [6] [] (mk 46 [(6, (dt (B false)))] []) (True ∧ True ∧ True ∧ True ∧ ((((runOf [3, 5] l).2) == true) = true) ∧ True ∧ ((((runOf [3, 5] l).2) == true) = true) ∧ True ∧ ((((runOf [3, 5] l).2) == true) = true) ∧ True ∧ True ∧ (((runOf [3, 5] l).2) = true) ∧ True ∧ True ∧ ((((bal 3 (runOf [3, 5] l).1.b).1 == a) == true) = false) ∧ ((((bal 3 (runOf [3, 5] l).1.b).1 == a) == true) = false) ∧ ((((bal 3 (runOf [3, 5] l).1.b).1 == a) == true) = false) ∧ True ∧ (((bal 3 (runOf [3, 5] l).1.b).1 == a) = false) ∧ True ∧ True ∧ ((false == true) = false) ∧ True ∧ (false = false) ∧ True ∧ True ∧ ((false == true) = false) ∧ True ∧ (false = false) ∧ True ∧ True ∧ True) (by kernel_rfl) ⟨trivial, trivial, trivial, trivial, (by rw [show ((runOf [3, 5] l).2) = true from h1]; rfl), trivial, (by rw [show ((runOf [3, 5] l).2) = true from h1]; rfl), trivial, (by rw [show ((runOf [3, 5] l).2) = true from h1]; rfl), trivial, trivial, h1, trivial, trivial, (by rw [show ((bal 3 (runOf [3, 5] l).1.b).1 == a) = false from h2]; rfl), (by rw [show ((bal 3 (runOf [3, 5] l).1.b).1 == a) = false from h2]; rfl), (by rw [show ((bal 3 (runOf [3, 5] l).1.b).1 == a) = false from h2]; rfl), trivial, h2, trivial, trivial, (by rw [show false = false from rfl]; rfl), trivial, rfl, trivial, trivial, (by rw [show false = false from rfl]; rfl), trivial, rfl, trivial, trivial, trivial⟩ ?_
      refine T_ret ?_
      exact ret_here [(dt (B false))] (by kernel_rfl) (.inl (congrArg B (by simp_all [balancesOf] : false = (balancesOf l a b))))
  · skip
    refine T_reg [{}, {}, { g := false }, { g := false }, { g := false }, { d := some (B false) }, {}, { g := false }, { g := false }, { g := false }, { d := some (B false) }, {}, { g := false }, { d := some (B false) }, {}, { g := false }, { d := some (B false) }] [6] [] (mk 46 [(6, (dt (B false)))] []) (True ∧ True ∧ True ∧ True ∧ ((((runOf [3, 5] l).2) == true) = false) ∧ ((((runOf [3, 5] l).2) == true) = false) ∧ ((((runOf [3, 5] l).2) == true) = false) ∧ True ∧ (((runOf [3, 5] l).2) = false) ∧ True ∧ True ∧ ((false == true) = false) ∧ ((false == true) = false) ∧ ((false == true) = false) ∧ True ∧ (false = false) ∧ True ∧ True ∧ ((false == true) = false) ∧ True ∧ (false = false) ∧ True ∧ True ∧ ((false == true) = false) ∧ True ∧ (false = false) ∧ True ∧ True ∧ True) (by kernel_rfl) ⟨trivial, trivial, trivial, trivial, (by rw [show ((runOf [3, 5] l).2) = false from h1]; rfl), (by rw [show ((runOf [3, 5] l).2) = false from h1]; rfl), (by rw [show ((runOf [3, 5] l).2) = false from h1]; rfl), trivial, h1, trivial, trivial, (by rw [show false = false from rfl]; rfl), (by rw [show false = false from rfl]; rfl), (by rw [show false = false from rfl]; rfl), trivial, rfl, trivial, trivial, (by rw [show false = false from rfl]; rfl), trivial, rfl, trivial, trivial, (by rw [show false = false from rfl]; rfl), trivial, rfl, trivial, trivial, trivial⟩ ?_
    refine T_ret ?_
    exact ret_here [(dt (B false))] (by kernel_rfl) (.inl (congrArg B (by simp_all [balancesOf] : false = (balancesOf l a b))))

end Go.Proofs.Ytpkbecaailhhmaa

/-
  Plain laws of chapter 39, first part: the binary search, validity, credits; what the code computes is what the reference computes.
-/
set_option linter.unusedVariables false
set_option linter.unusedSimpArgs false
namespace Go.Proofs.Ytpkbecaailhhmaa
open Go.DL

/-! ### sorted numbers and the search -/
theorem pw_get {ks : List Int} (h : ks.Pairwise (· < ·)) {i j : Nat} {x y : Int} (hi : ks[i]? = some x) (hj : ks[j]? = some y) (hij : i < j) : x < y := by
  obtain ⟨h1, rfl⟩ := List.getElem?_eq_some_iff.1 hi
  obtain ⟨h2, rfl⟩ := List.getElem?_eq_some_iff.1 hj
  exact List.pairwise_iff_getElem.1 h i j h1 h2 hij
theorem pw_inj {ks : List Int} (h : ks.Pairwise (· < ·)) {i j : Nat} {x : Int} (hi : ks[i]? = some x) (hj : ks[j]? = some x) : i = j := by
  rcases Nat.lt_trichotomy i j with h1 | h1 | h1
  · have := pw_get h hi hj h1; omega
  · exact h1
  · have := pw_get h hj hi h1; omega
theorem bs_spec {ks : List Int} {key : Int} (hs : ks.Pairwise (· < ·)) (i j : Nat) : i ≤ j → j ≤ ks.length →
    (∀ (m : Nat) (v : Int), m < i → ks[m]? = some v → v < key) → (∀ (m : Nat) (v : Int), j ≤ m → ks[m]? = some v → key ≤ v) →
    (∀ (m : Nat) (v : Int), m < bs ks key i j → ks[m]? = some v → v < key) ∧ (∀ (m : Nat) (v : Int), bs ks key i j ≤ m → ks[m]? = some v → key ≤ v) := by
  induction i, j using bs.induct ks key with
  | case1 i j h1 h2 ih =>
    intro _ hj ha hb
    rw [bs, if_pos h1, if_pos h2]
    have hlt : (i + j) / 2 < ks.length := by omega
    have hm : ks[(i + j) / 2]? = some ks[(i + j) / 2] := List.getElem?_eq_getElem hlt
    have hv : ks[(i + j) / 2] < key := by rw [List.getD, hm] at h2; exact h2
    refine ih (by omega) hj (fun m v hmi hmv => ?_) hb
    rcases Nat.lt_or_ge m ((i + j) / 2) with h | h
    · have := pw_get hs hmv hm h; omega
    · have : m = (i + j) / 2 := by omega
      subst this; rw [hm] at hmv; cases hmv; exact hv
  | case2 i j h1 h2 ih =>
    intro _ hj ha hb
    rw [bs, if_pos h1, if_neg h2]
    have hlt : (i + j) / 2 < ks.length := by omega
    have hm : ks[(i + j) / 2]? = some ks[(i + j) / 2] := List.getElem?_eq_getElem hlt
    have hv : ¬ ks[(i + j) / 2] < key := by rw [List.getD, hm] at h2; exact h2
    refine ih (by omega) (by omega) ha (fun m v hmi hmv => ?_)
    rcases Nat.lt_or_ge ((i + j) / 2) m with h | h
    · have := pw_get hs hm hmv h; omega
    · have : m = (i + j) / 2 := by omega
      subst this; rw [hm] at hmv; cases hmv; omega
  | case3 i j h1 =>
    intro hij _ ha hb
    rw [bs, if_neg h1]
    have : i = j := by omega
    subst this
    exact ⟨ha, hb⟩
theorem bsAt_spec {ks : List Int} (hs : ks.Pairwise (· < ·)) (key : Int) : (∀ (m : Nat) (v : Int), m < bsAt ks key → ks[m]? = some v → v < key) ∧ (∀ (m : Nat) (v : Int), bsAt ks key ≤ m → ks[m]? = some v → key ≤ v) :=
  bs_spec hs 0 ks.length (Nat.zero_le _) (Nat.le_refl _) (fun _ _ h => absurd h (Nat.not_lt_zero _)) (fun m v h1 h2 => by
    have := (List.getElem?_eq_some_iff.1 h2).1; omega)
theorem bsMet_mem {ks : List Int} (hs : ks.Pairwise (· < ·)) (key : Int) : bsMet ks key = decide (key ∈ ks) := by
  unfold bsMet
  rw [Bool.eq_iff_iff, decide_eq_true_iff, decide_eq_true_iff]
  constructor
  · intro h; exact List.mem_of_getElem? h
  · intro h
    obtain ⟨i, hi, he⟩ := List.mem_iff_getElem.1 h
    have hi' : ks[i]? = some key := by rw [List.getElem?_eq_getElem hi, he]
    have := bsAt_spec hs key
    rcases Nat.lt_trichotomy i (bsAt ks key) with h1 | h1 | h1
    · have := this.1 i key h1 hi'; omega
    · rw [← h1]; exact hi'
    · have hlt : bsAt ks key < ks.length := by omega
      have h2 := List.getElem?_eq_getElem hlt
      have h3 := this.2 _ _ (Nat.le_refl _) h2
      have h4 := pw_get hs h2 hi' h1
      omega
theorem bsAt_of {ks : List Int} (hs : ks.Pairwise (· < ·)) {key : Int} {i : Nat} (h : ks[i]? = some key) : bsAt ks key = i := by
  have hm : bsMet ks key = true := by rw [bsMet_mem hs]; exact decide_eq_true (List.mem_of_getElem? h)
  unfold bsMet at hm
  exact pw_inj hs (of_decide_eq_true hm) h

/-! ### clubs -/
theorem inc_pw {p : Int} {l : List Int} (h : incFrom p l = true) : (∀ c ∈ l, p < c ∧ 0 ≤ c ∧ c < 192) ∧ l.Pairwise (· < ·) := by
  induction l generalizing p with
  | nil => exact ⟨by simp, List.Pairwise.nil⟩
  | cons c l ih =>
    rw [incFrom] at h
    split at h
    · cases h
    · rename_i hc
      obtain ⟨h1, h2⟩ := ih h
      refine ⟨fun x hx => ?_, List.pairwise_cons.2 ⟨fun x hx => (h1 x hx).1, h2⟩⟩
      rcases List.mem_cons.1 hx with rfl | hx
      · omega
      · have := h1 x hx; omega
theorem clubs_pw {l : List Int} (h : areClubs l = true) : l.Pairwise (· < ·) := by
  unfold areClubs at h
  rw [Bool.and_eq_true] at h
  exact (inc_pw h.1).2
theorem bal_mem (c : Int) (l : List Pay) : (bal c l).2 = decide (c ∈ l.map (·.c)) := by
  induction l with
  | nil => rfl
  | cons p l ih =>
    rw [bal]
    split
    · rename_i h; simp [h]
    · rename_i h
      rw [ih, Bool.eq_iff_iff, decide_eq_true_iff, decide_eq_true_iff, List.map_cons, List.mem_cons]
      exact ⟨.inr, fun e => e.resolve_left (fun e => h e.symm)⟩
theorem hasB_eq {h : House} (hc : areClubs (h.b.map (·.c)) = true) : hasB h = hasR h := by
  funext c
  rw [hasB, hasR, bsMet_mem (clubs_pw hc), bal_mem]
theorem cw_eq (h : House) : checkWith hasR h = checkWith hasB h := by
  cases hc : areClubs (h.b.map (·.c)) with
  | false => rw [cw_clubs hc, cw_clubs hc]
  | true => unfold checkWith; rw [hasB_eq hc]
theorem checkR_eq (h : House) : checkR h = check h := by unfold checkR check; rw [cw_eq]

structure Ok (h : House) : Prop where
  lb : h.b.length ≤ 192
  lh : h.h.length ≤ 4096
  am : amountsOK h.b = true
  cl : areClubs (h.b.map (·.c)) = true
  ho : holdsFrom (hasR h) none h.h = true
  to : total h ≤ 1125899906842624
theorem check_of_ok {h : House} (o : Ok h) : check h = 0 := by
  rw [← checkR_eq]
  exact (chkR_yes (cw_ok o.lb o.lh o.am o.cl o.ho o.to)).symm
theorem pw_holds {has : Int → Bool} {p : Option Int} {l : List Hold} (hp : (l.map (·.t)).Pairwise (· < ·)) (h : ∀ x ∈ l, holdOK has none x = true ∧ (∀ q, p = some q → q < x.t)) : holdsFrom has p l = true := by
  induction l generalizing p with
  | nil => rfl
  | cons y l ih =>
    rw [List.map_cons, List.pairwise_cons] at hp
    rw [holdsFrom, Bool.and_eq_true]
    refine ⟨?_, ih hp.2 fun x hx => ⟨(h x (List.mem_cons_of_mem _ hx)).1, fun q hq => ?_⟩⟩
    · obtain ⟨h1, h2⟩ := h y List.mem_cons_self
      simp only [holdOK, Bool.and_eq_true, decide_eq_true_eq, Bool.not_eq_true', notBehind] at h1 ⊢
      refine ⟨h1.1, h1.2.1, ?_, h1.2.2.2⟩
      cases p with
      | none => rfl
      | some q => have := h2 q rfl; simp only [notBehind, decide_eq_false_iff_not]; omega
    · cases hq; exact hp.1 _ (List.mem_map.2 ⟨x, hx, rfl⟩)

/-! ### credits -/
def add1 (p x : Pay) : Pay := if p.c = x.c then ⟨x.c, IntKind.i64.wrap (x.a + p.a)⟩ else x
theorem add1_c (p x : Pay) : (add1 p x).c = x.c := by unfold add1; split <;> rfl
theorem map_add1_c (p : Pay) (m : List Pay) : (m.map (add1 p)).map (·.c) = m.map (·.c) := by
  rw [List.map_map]; exact List.map_congr_left fun x _ => add1_c p x
theorem give_eq {m : List Pay} (hs : (m.map (·.c)).Pairwise (· < ·)) (p : Pay) : give m p = m.map (add1 p) := by
  cases hm : bsMet (m.map (·.c)) p.c with
  | false =>
    rw [give_not hm]
    rw [bsMet_mem hs] at hm
    have hn := of_decide_eq_false hm
    symm
    conv => rhs; rw [← List.map_id m]
    refine List.map_congr_left fun x hx => ?_
    unfold add1
    rw [if_neg (fun e => hn (List.mem_map.2 ⟨x, hx, e.symm⟩))]; rfl
  | true =>
    have hlt := met_lt hm
    have he := List.getElem?_eq_getElem hlt
    have hk : (m.map (·.c))[bsAt (m.map (·.c)) p.c]? = some p.c := of_decide_eq_true hm
    rw [give_met he hm]
    have hec : (m[bsAt (m.map (·.c)) p.c]).c = p.c := by
      rw [List.getElem?_map, he] at hk; simpa using hk
    refine List.ext_getElem? fun i => ?_
    rw [List.getElem?_set, List.getElem?_map]
    split
    · rename_i hi
      subst hi
      rw [he]
      simp only [Option.map_some, add1, hec, if_true]
    · rename_i hi
      cases hmi : m[i]? with
      | none => rfl
      | some x =>
        have : p.c ≠ x.c := fun e => hi (pw_inj hs hk (by rw [List.getElem?_map, hmi, e]; rfl))
        simp [add1, this]
theorem addAll_cons (x p : Pay) (ps : List Pay) : addAll x (p :: ps) = addAll (add1 p x) ps := by unfold add1; rw [addAll]
theorem addAll_c (x : Pay) (ps : List Pay) : (addAll x ps).c = x.c := by
  induction ps generalizing x with
  | nil => rfl
  | cons p ps ih => rw [addAll_cons, ih, add1_c]
theorem cred_eq {m : List Pay} (hs : (m.map (·.c)).Pairwise (· < ·)) (ps : List Pay) : cred m ps = m.map (fun x => addAll x ps) := by
  induction ps generalizing m with
  | nil =>
    rw [cred]; symm
    conv => rhs; rw [← List.map_id m]
    exact List.map_congr_left fun x _ => rfl
  | cons p ps ih =>
    rw [cred, give_eq hs, ih (by rw [map_add1_c]; exact hs), List.map_map]
    exact List.map_congr_left fun x _ => (addAll_cons x p ps).symm
theorem cred_c {m : List Pay} (hs : (m.map (·.c)).Pairwise (· < ·)) (ps : List Pay) : (cred m ps).map (·.c) = m.map (·.c) := by
  rw [cred_eq hs, List.map_map]; exact List.map_congr_left fun x _ => addAll_c x ps
/-! ### the movements are the reference's -/
end Go.Proofs.Ytpkbecaailhhmaa

/-
  Chapter 39: the examples, evaluated.
-/
set_option linter.unusedVariables false
set_option linter.unusedSimpArgs false
namespace Go.Proofs.Ytpkbecaailhhmaa
open Go.DL
def exP : Step := ⟨0, 3, 100, 0, [], false⟩
def exH : Step := ⟨1, 3, 0, 1, [⟨5, 70⟩], false⟩
theorem ex1 : balancesOf [⟨0, 3, 100, 0, [], false⟩] 100 0 = true := by decide +kernel
theorem ex2 : balancesOf [⟨0, 3, 100, 0, [], false⟩, ⟨1, 3, 0, 1, [⟨5, 70⟩], false⟩] 30 0 = true := by decide +kernel
theorem ex3 : balancesOf [⟨0, 3, 100, 0, [], false⟩, ⟨1, 3, 0, 1, [⟨5, 70⟩], false⟩, ⟨2, 0, 0, 1, [], true⟩] 30 70 = true := by decide +kernel
theorem ex4 : balancesOf [⟨0, 3, 100, 0, [], false⟩, ⟨1, 3, 0, 1, [⟨5, 70⟩], false⟩, ⟨2, 0, 0, 1, [], false⟩] 100 0 = true := by decide +kernel
theorem ex5 : newE [3, 5] = 0 ∧ newB [3, 5] = [⟨3, 0⟩, ⟨5, 0⟩] := by decide +kernel
theorem ex6 : stepOf ⟨[⟨3, 0⟩, ⟨5, 0⟩], []⟩ ⟨1, 3, 0, 1, [⟨5, 70⟩], false⟩ = (none0, 390) := by decide +kernel
theorem ex7 : paid ⟨[⟨3, 0⟩, ⟨5, 0⟩], []⟩ 3 0 = (none0, 1) := by decide +kernel
theorem ex8 : held ⟨[⟨3, 0⟩, ⟨5, 0⟩], []⟩ 1 3 [] = (⟨[⟨3, 0⟩, ⟨5, 0⟩], [⟨1, 3, [], 1⟩]⟩, 0) := by decide +kernel
theorem ex9 : (settled ⟨[⟨3, 0⟩, ⟨5, 0⟩], [⟨1, 3, [], 1⟩]⟩ 1 true).2 = 0 := by decide +kernel
theorem ex10 : check ⟨[], []⟩ = 1 := by decide +kernel
theorem ex11 : total ⟨[⟨3, 0⟩, ⟨5, 0⟩], []⟩ = 0 := by decide +kernel
end Go.Proofs.Ytpkbecaailhhmaa
