/-
  Texts that belong together, one behind the other; what each of them proves, and under which conditions, its own heading says.
-/
import Derived.Test.YtoiiblkncbnlaaaRows
import Derived.Test.YtoiiblkncbnlaaaMd
/-
  Go functions as partial functions, printed by auto.py: what each returns when its partial function has a value. Conditions: those of each theorem.
-/
namespace Go.Proofs.Ytoiiblkncbnlaaa
open Go.DL
set_option maxRecDepth 100000
set_option maxHeartbeats 4000000
set_option linter.unusedVariables false
set_option linter.unusedSimpArgs false
theorem g_ref42_Same_ret {a_1 : List Pay} {b_2 : List Pay} {r : Bool} (h : g_ref42_Same a_1 b_2 = some r) : Ret Try.prog 11 [(.sl 2 (a_1.map encPay)), (.sl 2 (b_2.map encPay))] (B (r)) := by
  refine Ret.of_T Try.func11 (by kernel_rfl) rfl ?_
  refine T_turn [] [0, 1] [] (mk 26 [(0, (dt (.sl 2 (a_1.map encPay)))), (1, (dt (.sl 2 (b_2.map encPay))))] []) (by kernel_rfl) ?_
  refine T_reg [] [0, 1] [] (mk 26 [(0, (dt (.sl 2 (a_1.map encPay)))), (1, (dt (.sl 2 (b_2.map encPay))))] []) _ (by kernel_rfl) (z2 zt) ?_
  refine T_seq ?_
  refine T_reg [zn, (zd (I ((a_1.length : Nat) : Int))), zn, (zd (I ((b_2.length : Nat) : Int)))] [0, 1, 10] [] (mk 26 [(0, (dt (.sl 2 (a_1.map encPay)))), (1, (dt (.sl 2 (b_2.map encPay)))), (10, (db (((a_1.length : Nat) : Int) != ((b_2.length : Nat) : Int))))] []) _ (by kernel_rfl) (z3 (zc (len_s encPay a_1) (z3 (zc (len_s encPay b_2) (z2 zt))))) ?_
  refine T_cond (((a_1.length : Nat) : Int) != ((b_2.length : Nat) : Int)) (by kernel_rfl) (fun b3 => ?_) (fun b3 => ?_)
  replace h := ite_t b3 h
  refine T_reg [] [4] [] (mk 26 [(4, (db false))] []) _ (by kernel_rfl) (z2 zt) ?_
  refine T_ret ?_
  obtain rfl := some_inv h
  exact ret_here [(db false)] (by kernel_rfl) (.inl rfl)
  replace h := ite_f b3 h
  refine T_skip ?_
  refine T_seqJ (α := Unit) (fun (_ : Unit) => (mk 26 [] [])) (fun (_ : Unit) => g_ref42_Same_j1 = some r) (fun v h => ?_) ?_
  refine T_reg [] [4] [] (mk 26 [(4, (db true))] []) _ (by kernel_rfl) (z2 zt) ?_
  refine T_ret ?_
  obtain rfl := some_inv h
  exact ret_here [(db true)] (by kernel_rfl) (.inl rfl)
  refine T_reg [] [0, 1, 5] [] (mk 26 [(0, (dt (.sl 2 (a_1.map encPay)))), (1, (dt (.sl 2 (b_2.map encPay)))), (5, (di 0))] []) _ (by kernel_rfl) (z2 zt) ?_
  refine T_block ?_
  refine T_arr [] [0, 1, 5] [] [] _ (by kernel_rfl) (T_loopO (σ := Nat) (fun (i_4 : Nat) => (mk 26 [(0, (dt (.sl 2 (a_1.map encPay)))), (1, (dt (.sl 2 (b_2.map encPay)))), (5, (di ((i_4 : Nat) : Int)))] [])) (g_ref42_Same_l2 a_1 b_2) 0 h (fun i_4 y1 hy1 h => ?_))
  refine T_seq ?_
  refine T_reg [zn, zn, (zd (I ((a_1.length : Nat) : Int)))] [0, 1, 5, 14] [] (mk 26 [(0, (dt (.sl 2 (a_1.map encPay)))), (1, (dt (.sl 2 (b_2.map encPay)))), (5, (di ((i_4 : Nat) : Int))), (14, (db (decide (((i_4 : Nat) : Int) < ((a_1.length : Nat) : Int)))))] []) _ (by kernel_rfl) (z5 (zc (len_s encPay a_1) (z2 zt))) ?_
  refine T_cond (decide (((i_4 : Nat) : Int) < ((a_1.length : Nat) : Int))) (by kernel_rfl) (fun b6 => ?_) (fun b6 => ?_)
  replace h := ite_t b6 h
  refine T_skip ?_
  refine T_seq ?_
  refine T_block ?_
  obtain ⟨x_7, e8, e9, e10, h⟩ := gn_inv encPay h
  obtain ⟨x_11, e12, e13, e14, h⟩ := gn_inv encPay h
  refine T_regD 9 (hl 7 [(2, (zd (encPay x_7))), (6, (zd (encPay x_11)))]) [0, 1, 5, 25] [] (mk 26 [(0, (dt (.sl 2 (a_1.map encPay)))), (1, (dt (.sl 2 (b_2.map encPay)))), (5, (di ((i_4 : Nat) : Int))), (25, (db (!((x_7.c == x_11.c) && ((x_7.a == x_11.a) && true)))))] []) _ (by kernel_rfl) (by kernel_rfl) (by kernel_rfl) (zc (z5 (zc e8 (z7 (zc e12 (z4 zt))))) zt) ?_
  refine T_cond (!((x_7.c == x_11.c) && ((x_7.a == x_11.a) && true))) (by kernel_rfl) (fun b15 => ?_) (fun b15 => ?_)
  replace h := ite_t b15 h
  refine T_reg [] [4] [] (mk 26 [(4, (db false))] []) _ (by kernel_rfl) (z2 zt) ?_
  refine T_ret ?_
  replace h := up_inv h hy1
  obtain rfl := some_inv h
  exact ret_here [(db false)] (by kernel_rfl) (.inl rfl)
  replace h := ite_f b15 h
  refine T_skip ?_
  obtain ⟨c16, h⟩ := ckI_inv h
  exact T_regJ [zn, (zd (I ((i_4 + 1 : Nat) : Int)))] [] [0, 1, 5] [] [] _ _ (by kernel_rfl) (z3 (zc c16 (z2 zt))) (fun s hs => Exists.intro (i_4 + 1) (And.intro h hs))
  replace h := ite_f b6 h
  refine T_exit ?_
  replace h := up_inv h hy1
  exact Exists.intro () (And.intro h (arr [] [] [] [] (by kernel_rfl)))

theorem g_ref42_SameInts_ret {a_1 : List Int} {b_2 : List Int} {r : Bool} (h : g_ref42_SameInts a_1 b_2 = some r) : Ret Try.prog 12 [(.sl 1 (a_1.map elI)), (.sl 1 (b_2.map elI))] (B (r)) := by
  refine Ret.of_T Try.func12 (by kernel_rfl) rfl ?_
  refine T_turn [] [0, 1] [] (mk 26 [(0, (dt (.sl 1 (a_1.map elI)))), (1, (dt (.sl 1 (b_2.map elI))))] []) (by kernel_rfl) ?_
  refine T_reg [] [0, 1] [] (mk 26 [(0, (dt (.sl 1 (a_1.map elI)))), (1, (dt (.sl 1 (b_2.map elI))))] []) _ (by kernel_rfl) (z2 zt) ?_
  refine T_seq ?_
  refine T_reg [zn, (zd (I ((a_1.length : Nat) : Int))), zn, (zd (I ((b_2.length : Nat) : Int)))] [0, 1, 10] [] (mk 26 [(0, (dt (.sl 1 (a_1.map elI)))), (1, (dt (.sl 1 (b_2.map elI)))), (10, (db (((a_1.length : Nat) : Int) != ((b_2.length : Nat) : Int))))] []) _ (by kernel_rfl) (z3 (zc (len_s elI a_1) (z3 (zc (len_s elI b_2) (z2 zt))))) ?_
  refine T_cond (((a_1.length : Nat) : Int) != ((b_2.length : Nat) : Int)) (by kernel_rfl) (fun b3 => ?_) (fun b3 => ?_)
  replace h := ite_t b3 h
  refine T_reg [] [4] [] (mk 26 [(4, (db false))] []) _ (by kernel_rfl) (z2 zt) ?_
  refine T_ret ?_
  obtain rfl := some_inv h
  exact ret_here [(db false)] (by kernel_rfl) (.inl rfl)
  replace h := ite_f b3 h
  refine T_skip ?_
  refine T_seqJ (α := Unit) (fun (_ : Unit) => (mk 26 [] [])) (fun (_ : Unit) => g_ref42_SameInts_j1 = some r) (fun v h => ?_) ?_
  refine T_reg [] [4] [] (mk 26 [(4, (db true))] []) _ (by kernel_rfl) (z2 zt) ?_
  refine T_ret ?_
  obtain rfl := some_inv h
  exact ret_here [(db true)] (by kernel_rfl) (.inl rfl)
  refine T_reg [] [0, 1, 5] [] (mk 26 [(0, (dt (.sl 1 (a_1.map elI)))), (1, (dt (.sl 1 (b_2.map elI)))), (5, (di 0))] []) _ (by kernel_rfl) (z2 zt) ?_
  refine T_block ?_
  refine T_arr [] [0, 1, 5] [] [] _ (by kernel_rfl) (T_loopO (σ := Nat) (fun (i_4 : Nat) => (mk 26 [(0, (dt (.sl 1 (a_1.map elI)))), (1, (dt (.sl 1 (b_2.map elI)))), (5, (di ((i_4 : Nat) : Int)))] [])) (g_ref42_SameInts_l2 a_1 b_2) 0 h (fun i_4 y1 hy1 h => ?_))
  refine T_seq ?_
  refine T_reg [zn, zn, (zd (I ((a_1.length : Nat) : Int)))] [0, 1, 5, 14] [] (mk 26 [(0, (dt (.sl 1 (a_1.map elI)))), (1, (dt (.sl 1 (b_2.map elI)))), (5, (di ((i_4 : Nat) : Int))), (14, (db (decide (((i_4 : Nat) : Int) < ((a_1.length : Nat) : Int)))))] []) _ (by kernel_rfl) (z5 (zc (len_s elI a_1) (z2 zt))) ?_
  refine T_cond (decide (((i_4 : Nat) : Int) < ((a_1.length : Nat) : Int))) (by kernel_rfl) (fun b6 => ?_) (fun b6 => ?_)
  replace h := ite_t b6 h
  refine T_skip ?_
  refine T_seq ?_
  refine T_block ?_
  obtain ⟨x_7, e8, e9, e10, h⟩ := gn_inv elI h
  obtain ⟨x_11, e12, e13, e14, h⟩ := gn_inv elI h
  refine T_regD 9 (hl 7 [(2, (zd (I x_7))), (6, (zd (I x_11)))]) [0, 1, 5, 25] [] (mk 26 [(0, (dt (.sl 1 (a_1.map elI)))), (1, (dt (.sl 1 (b_2.map elI)))), (5, (di ((i_4 : Nat) : Int))), (25, (db (x_7 != x_11)))] []) _ (by kernel_rfl) (by kernel_rfl) (by kernel_rfl) (zc (z5 (zc e8 (z7 (zc e12 (z4 zt))))) zt) ?_
  refine T_cond (x_7 != x_11) (by kernel_rfl) (fun b15 => ?_) (fun b15 => ?_)
  replace h := ite_t b15 h
  refine T_reg [] [4] [] (mk 26 [(4, (db false))] []) _ (by kernel_rfl) (z2 zt) ?_
  refine T_ret ?_
  replace h := up_inv h hy1
  obtain rfl := some_inv h
  exact ret_here [(db false)] (by kernel_rfl) (.inl rfl)
  replace h := ite_f b15 h
  refine T_skip ?_
  obtain ⟨c16, h⟩ := ckI_inv h
  exact T_regJ [zn, (zd (I ((i_4 + 1 : Nat) : Int)))] [] [0, 1, 5] [] [] _ _ (by kernel_rfl) (z3 (zc c16 (z2 zt))) (fun s hs => Exists.intro (i_4 + 1) (And.intro h hs))
  replace h := ite_f b6 h
  refine T_exit ?_
  replace h := up_inv h hy1
  exact Exists.intro () (And.intro h (arr [] [] [] [] (by kernel_rfl)))

theorem g_law42_sane_ret {r : Bool} (h : g_law42_sane = some r) : Ret Try.prog 4 [] (B (r)) := by
  refine Ret.of_T Try.func4 (by kernel_rfl) rfl ?_
  refine T_turn [] [] [] (mk 109 [] []) (by kernel_rfl) ?_
  refine T_reg [] [] [] (mk 109 [] []) _ (by kernel_rfl) (z2 zt) ?_
  refine T_reg [] [1] [] (mk 109 [(1, (rf 1 0))] [(1, (.var [(.dat (I 2)), (.own 16), (.dat (I 0)), (.dat (I 0)), (.dat (I (-1))), (.dat (I (-1)))])), (16, (.row 45 3 ([(⟨1, 2, 101⟩ : Prize)].map encPrize)))]) _ (by kernel_rfl) (z3 (zc (show dfill (fun i => some (i * 3, 3)) (List.replicate (1 * 3) .junk) [(0, [(.dat (I 1)), (.dat (I 2)), (.dat (I 101))])] = some ((flat ([(⟨1, 2, 101⟩ : Prize)].map encPrize)).map .dat) from rfl) (z6 zt))) ?_
  refine T_reg [] [1, 2] [] (mk 109 [(1, (rf 1 0)), (2, (rf 2 0))] [(2, (.var [(.dat (I 2)), (.own 16), (.dat (I 0)), (.dat (I 0)), (.dat (I (-1))), (.dat (I (-1)))])), (1, (.var [(.dat (I 2)), (.own 16), (.dat (I 0)), (.dat (I 0)), (.dat (I (-1))), (.dat (I (-1)))])), (16, (.row 45 3 ([(⟨1, 2, 101⟩ : Prize)].map encPrize)))]) _ (by kernel_rfl) (z6 zt) ?_
  refine T_reg [] [1, 2] [] (mk 109 [(1, (rf 1 0)), (2, (rf 2 0))] [(21, (.row 45 3 ([(⟨1, 2, 101⟩ : Prize), (⟨2, 2, 1⟩ : Prize)].map encPrize))), (2, (.var [(.dat (I 2)), (.own 21), (.dat (I 0)), (.dat (I 0)), (.dat (I (-1))), (.dat (I (-1)))])), (1, (.var [(.dat (I 2)), (.own 16), (.dat (I 0)), (.dat (I 0)), (.dat (I (-1))), (.dat (I (-1)))])), (16, (.row 45 3 ([(⟨1, 2, 101⟩ : Prize)].map encPrize)))]) _ (by kernel_rfl) (z5 (zc (show dfill (fun i => some (i * 3, 3)) (List.replicate (2 * 3) .junk) [(0, [(.dat (I 1)), (.dat (I 2)), (.dat (I 101))]), (1, [(.dat (I 2)), (.dat (I 2)), (.dat (I 1))])] = some ((flat ([(⟨1, 2, 101⟩ : Prize), (⟨2, 2, 1⟩ : Prize)].map encPrize)).map .dat) from rfl) (z4 zt))) ?_
  obtain ⟨r_1, e2, h⟩ := bd_inv h
  obtain ⟨r_3, e4, h⟩ := bd_inv h
  refine T_arr [] [1, 2] [] [1, 2, 16, 21] (mk 109 [(1, (rf 1 0)), (2, (rf 2 0))] [(1, (.var [(.dat (I 2)), (.own 16), (.dat (I 0)), (.dat (I 0)), (.dat (I (-1))), (.dat (I (-1)))])), (2, (.var [(.dat (I 2)), (.own 21), (.dat (I 0)), (.dat (I 0)), (.dat (I (-1))), (.dat (I (-1)))])), (16, (.row 45 3 ([(⟨1, 2, 101⟩ : Prize)].map encPrize))), (21, (.row 45 3 ([(⟨1, 2, 101⟩ : Prize), (⟨2, 2, 1⟩ : Prize)].map encPrize)))]) (by kernel_rfl) ?_
  refine T_anyUS [{}, { h := zd (encTab r_1), co := [.ice 24] }, {}, { h := zd (.tup [(.sl 2 (r_3.1.map encPay)), (I r_3.2)]), co := [.ice 16] }, {}, {}, {}, {}, {}] _ (mk 109 [(1, (rf 1 0)), (2, (rf 2 0))] [(1, (.var [(.dat (I 2)), (.own 16), (.dat (I 0)), (.dat (I 0)), (.dat (I (-1))), (.dat (I (-1)))])), (2, (.var [(.dat (I 2)), (.own 21), (.dat (I 0)), (.dat (I 0)), (.dat (I (-1))), (.dat (I (-1)))])), (16, (.row 45 3 ([(⟨1, 2, 101⟩ : Prize)].map encPrize))), (21, (.row 45 3 ([(⟨1, 2, 101⟩ : Prize), (⟨2, 2, 1⟩ : Prize)].map encPrize)))]) [(0, 24, (ow 24)), (1, 24, (dt (.sl 1 ([(4 : Int), (9 : Int)].map elI)))), (1, 25, (.agg (qTab r_1))), (2, 26, (.agg [(.dat (I 2)), (.own 16), (.dat (I 0)), (.dat (I 0)), (.dat (I (-1))), (.dat (I (-1)))])), (3, 26, (.agg [(.dat (I 2)), (.dat (.sl 3 ([(⟨1, 2, 101⟩ : Prize)].map encPrize))), (.dat (I 0)), (.dat (I 0)), (.dat (I (-1))), (.dat (I (-1)))])), (3, 27, (.tup [(false, [(.dat (.sl 2 (r_3.1.map encPay)))]), (false, [(.dat (I r_3.2))])])), (4, 23, (.tup [(false, [(.dat (.sl 2 (r_3.1.map encPay)))]), (false, [(.dat (I r_3.2))])])), (5, 28, (dt (.sl 2 (r_3.1.map encPay)))), (6, 29, (di r_3.2)), (7, 3, (dt (.sl 2 (r_3.1.map encPay)))), (8, 4, (di r_3.2))] [(0, 24, some (.row 3 1 ([(4 : Int), (9 : Int)].map elI))), (1, 24, none), (3, 1, some (.var [(.dat (I 2)), (.dat (.sl 3 ([(⟨1, 2, 101⟩ : Prize)].map encPrize))), (.dat (I 0)), (.dat (I 0)), (.dat (I (-1))), (.dat (I (-1)))])), (3, 16, none)] [1, 2, 16, 21, 24] [0, 1, 3, 4, 5, 7, 15, 31, 63, 95, 127, 191, 255, 511] (by kernel_rfl) (by decide) (by kernel_rfl) (by kernel_rfl) (by kernel_rfl) (zs (zc zt (show dfill (fun i => some (i * 1, 1)) (List.replicate (2 * 1) .junk) [(0, [(.dat (I 4))]), (1, [(.dat (I 9))])] = some ((flat ([(4 : Int), (9 : Int)].map elI)).map .dat) from rfl)) (zs (zc zt (g_law42_level_ret e2)) (zs (zc zt zt) (zs (zc zt (g_prizes_Prizes_ret e4)) (zs (zc zt zt) (zs (zc zt zt) (zs (zc zt zt) (zs (zc zt zt) (zs (zc zt zt) zS))))))))) ?_
  refine T_turn [] [1, 2, 3, 4] [] (mk 109 [(1, (rf 1 0)), (2, (rf 2 0)), (3, (dt (.sl 2 (r_3.1.map encPay)))), (4, (di r_3.2))] [(1, (.var [(.dat (I 2)), (.dat (.sl 3 ([(⟨1, 2, 101⟩ : Prize)].map encPrize))), (.dat (I 0)), (.dat (I 0)), (.dat (I (-1))), (.dat (I (-1)))])), (2, (.var [(.dat (I 2)), (.own 21), (.dat (I 0)), (.dat (I 0)), (.dat (I (-1))), (.dat (I (-1)))])), (21, (.row 45 3 ([(⟨1, 2, 101⟩ : Prize), (⟨2, 2, 1⟩ : Prize)].map encPrize)))]) (by kernel_rfl) ?_
  obtain ⟨r_5, e6, h⟩ := bd_inv h
  refine T_regD 11 [zn, (zd (encTab r_1)), zn, zn, zn, (zd (.tup [(.sl 1 (r_5.1.map elI)), (I r_5.2)]))] [1, 2, 3, 4, 5, 6] [] (mk 109 [(1, (rf 1 0)), (2, (rf 2 0)), (3, (dt (.sl 2 (r_3.1.map encPay)))), (4, (di r_3.2)), (5, (dt (.sl 1 (r_5.1.map elI)))), (6, (di r_5.2))] [(1, (.var [(.dat (I 2)), (.dat (.sl 3 ([(⟨1, 2, 101⟩ : Prize)].map encPrize))), (.dat (I 0)), (.dat (I 0)), (.dat (I (-1))), (.dat (I (-1)))])), (2, (.var [(.dat (I 2)), (.own 21), (.dat (I 0)), (.dat (I 0)), (.dat (I (-1))), (.dat (I (-1)))])), (21, (.row 45 3 ([(⟨1, 2, 101⟩ : Prize), (⟨2, 2, 1⟩ : Prize)].map encPrize)))]) _ (by kernel_rfl) (by kernel_rfl) (by kernel_rfl) (zc (z1 (zc (show dfill (fun i => some (i * 1, 1)) (List.replicate (2 * 1) .junk) [(0, [(.dat (I 4))]), (1, [(.dat (I 9))])] = some ((flat ([(4 : Int), (9 : Int)].map elI)).map .dat) from rfl) (z1 (zc (g_law42_level_ret e2) (z1 (zc (show dfill (fun i => some (i * 3, 3)) (List.replicate (1 * 3) .junk) [(0, [(.dat (I r_1.s)), (.dat (I r_1.c)), (.dat (.sl 14 (r_1.l.map encPlace)))])] = some ((flat ([r_1].map encTab)).map .dat) from rfl) (z3 (zc (show dfill (fun i => some (i * 6, 6)) (List.replicate (1 * 6) .junk) [(0, [(.dat (I 2)), (.dat (.sl 3 ([(⟨1, 2, 101⟩ : Prize)].map encPrize))), (.dat (I 0)), (.dat (I 0)), (.dat (I (-1))), (.dat (I (-1)))])] = some ((flat ([(⟨2, [(⟨1, 2, 101⟩ : Prize)], 0, 0, (-1), (-1)⟩ : Sch)].map encSch)).map .dat) from rfl) (z1 (zc (g_prizes_Next_ret e6) (z8 (z2 zt)))))))))))) zt) ?_
  obtain ⟨r_7, e8, h⟩ := bd_inv h
  refine T_reg [(zd (.tup [(.sl 1 (r_7.1.map elI)), (I r_7.2)]))] [1, 2, 3, 4, 5, 6, 8] [] (mk 109 [(1, (rf 1 0)), (2, (rf 2 0)), (3, (dt (.sl 2 (r_3.1.map encPay)))), (4, (di r_3.2)), (5, (dt (.sl 1 (r_5.1.map elI)))), (6, (di r_5.2)), (8, (di r_7.2))] [(1, (.var [(.dat (I 2)), (.dat (.sl 3 ([(⟨1, 2, 101⟩ : Prize)].map encPrize))), (.dat (I 0)), (.dat (I 0)), (.dat (I (-1))), (.dat (I (-1)))])), (2, (.var [(.dat (I 2)), (.own 21), (.dat (I 0)), (.dat (I 0)), (.dat (I (-1))), (.dat (I (-1)))])), (21, (.row 45 3 ([(⟨1, 2, 101⟩ : Prize), (⟨2, 2, 1⟩ : Prize)].map encPrize)))]) _ (by kernel_rfl) (z1 (zc (show Ret Try.prog 6 [nilS, nilS, (I 0)] (.tup [(.sl 1 (r_7.1.map elI)), (I r_7.2)]) from (Ret.weak (g_prizes_Next_ret e8) ⟨Weak.nil 3, Weak.nil 6, Weak.refl _, trivial⟩)) (z8 (z2 zt)))) ?_
  obtain ⟨r_9, e10, h⟩ := bd_inv h
  refine T_reg [zn, zn, (zd (.tup [(.sl 2 (r_9.1.map encPay)), (I r_9.2)]))] [1, 2, 3, 4, 5, 6, 8, 10] [] (mk 109 [(1, (rf 1 0)), (2, (rf 2 0)), (3, (dt (.sl 2 (r_3.1.map encPay)))), (4, (di r_3.2)), (5, (dt (.sl 1 (r_5.1.map elI)))), (6, (di r_5.2)), (8, (di r_7.2)), (10, (di r_9.2))] [(1, (.var [(.dat (I 2)), (.dat (.sl 3 ([(⟨1, 2, 101⟩ : Prize)].map encPrize))), (.dat (I 0)), (.dat (I 0)), (.dat (I (-1))), (.dat (I (-1)))])), (2, (.var [(.dat (I 2)), (.own 21), (.dat (I 0)), (.dat (I 0)), (.dat (I (-1))), (.dat (I (-1)))])), (21, (.row 45 3 ([(⟨1, 2, 101⟩ : Prize), (⟨2, 2, 1⟩ : Prize)].map encPrize)))]) _ (by kernel_rfl) (z5 (zc (show Ret Try.prog 7 [(.agg [(I 0), (I 0), nilS]), (.agg [(I 2), (.sl 3 ([(⟨1, 2, 101⟩ : Prize)].map encPrize)), (I 0), (I 0), (I (-1)), (I (-1))])] (.tup [(.sl 2 (r_9.1.map encPay)), (I r_9.2)]) from (Ret.weak (g_prizes_Prizes_ret e10) ⟨(Weak.agg ⟨Weak.refl _, Weak.refl _, Weak.nil 14, trivial⟩), Weak.refl _, trivial⟩)) (z8 (z2 zt)))) ?_
  refine T_reg [] [1, 2, 3, 4, 5, 6, 8, 10, 11] [] (mk 109 [(1, (rf 1 0)), (2, (rf 2 0)), (3, (dt (.sl 2 (r_3.1.map encPay)))), (4, (di r_3.2)), (5, (dt (.sl 1 (r_5.1.map elI)))), (6, (di r_5.2)), (8, (di r_7.2)), (10, (di r_9.2)), (11, (rf 11 0))] [(11, (.var [(.dat (I 2)), (.dat (.sl 3 ([(⟨1, 2, 101⟩ : Prize)].map encPrize))), (.dat (I 0)), (.dat (I 0)), (.dat (I (-1))), (.dat (I (-1)))])), (1, (.var [(.dat (I 2)), (.dat (.sl 3 ([(⟨1, 2, 101⟩ : Prize)].map encPrize))), (.dat (I 0)), (.dat (I 0)), (.dat (I (-1))), (.dat (I (-1)))])), (2, (.var [(.dat (I 2)), (.own 21), (.dat (I 0)), (.dat (I 0)), (.dat (I (-1))), (.dat (I (-1)))])), (21, (.row 45 3 ([(⟨1, 2, 101⟩ : Prize), (⟨2, 2, 1⟩ : Prize)].map encPrize)))]) _ (by kernel_rfl) (z6 zt) ?_
  refine T_reg [] [1, 2, 3, 4, 5, 6, 8, 10, 11] [] (mk 109 [(1, (rf 1 0)), (2, (rf 2 0)), (3, (dt (.sl 2 (r_3.1.map encPay)))), (4, (di r_3.2)), (5, (dt (.sl 1 (r_5.1.map elI)))), (6, (di r_5.2)), (8, (di r_7.2)), (10, (di r_9.2)), (11, (rf 11 0))] [(11, (.var [(.dat (I 2)), (.dat (.sl 3 ([(⟨1, 2, 101⟩ : Prize)].map encPrize))), (.dat (I 3)), (.dat (I 0)), (.dat (I 1)), (.dat (I (-1)))])), (1, (.var [(.dat (I 2)), (.dat (.sl 3 ([(⟨1, 2, 101⟩ : Prize)].map encPrize))), (.dat (I 0)), (.dat (I 0)), (.dat (I (-1))), (.dat (I (-1)))])), (2, (.var [(.dat (I 2)), (.own 21), (.dat (I 0)), (.dat (I 0)), (.dat (I (-1))), (.dat (I (-1)))])), (21, (.row 45 3 ([(⟨1, 2, 101⟩ : Prize), (⟨2, 2, 1⟩ : Prize)].map encPrize)))]) _ (by kernel_rfl) (z8 zt) ?_
  obtain ⟨r_11, e12, h⟩ := bd_inv h
  refine T_regD 11 [zn, (zd (encTab r_1)), zn, (zd (.tup [(.sl 1 (r_11.1.map elI)), (.sl 1 (r_11.2.1.map elI)), (I r_11.2.2)]))] [1, 2, 3, 4, 5, 6, 8, 10, 14] [11] (mk 109 [(1, (rf 1 0)), (2, (rf 2 0)), (3, (dt (.sl 2 (r_3.1.map encPay)))), (4, (di r_3.2)), (5, (dt (.sl 1 (r_5.1.map elI)))), (6, (di r_5.2)), (8, (di r_7.2)), (10, (di r_9.2)), (14, (di r_11.2.2))] [(1, (.var [(.dat (I 2)), (.dat (.sl 3 ([(⟨1, 2, 101⟩ : Prize)].map encPrize))), (.dat (I 0)), (.dat (I 0)), (.dat (I (-1))), (.dat (I (-1)))])), (2, (.var [(.dat (I 2)), (.own 21), (.dat (I 0)), (.dat (I 0)), (.dat (I (-1))), (.dat (I (-1)))])), (21, (.row 45 3 ([(⟨1, 2, 101⟩ : Prize), (⟨2, 2, 1⟩ : Prize)].map encPrize)))]) _ (by kernel_rfl) (by kernel_rfl) (by kernel_rfl) (zc (z1 (zc (show dfill (fun i => some (i * 1, 1)) (List.replicate (2 * 1) .junk) [(0, [(.dat (I 4))]), (1, [(.dat (I 9))])] = some ((flat ([(4 : Int), (9 : Int)].map elI)).map .dat) from rfl) (z1 (zc (g_law42_level_ret e2) (z3 (zc (g_prizes_Moves_ret e12) (z8 (z6 zt)))))))) zt) ?_
  refine T_seq ?_
  refine T_seqJ (α := Bool) (fun (v_13 : Bool) => (mk 109 [(1, (rf 1 0)), (2, (rf 2 0)), (3, (dt (.sl 2 (r_3.1.map encPay)))), (5, (dt (.sl 1 (r_5.1.map elI)))), (83, (db (v_13)))] [(1, (.var [(.dat (I 2)), (.dat (.sl 3 ([(⟨1, 2, 101⟩ : Prize)].map encPrize))), (.dat (I 0)), (.dat (I 0)), (.dat (I (-1))), (.dat (I (-1)))])), (2, (.var [(.dat (I 2)), (.own 21), (.dat (I 0)), (.dat (I 0)), (.dat (I (-1))), (.dat (I (-1)))])), (21, (.row 45 3 ([(⟨1, 2, 101⟩ : Prize), (⟨2, 2, 1⟩ : Prize)].map encPrize)))])) (fun (v_13 : Bool) => g_law42_sane_j1 r_3 r_5 v_13 = some r) (fun v_13 h => ?_) ?_
  refine T_cond (v_13) (by kernel_rfl) (fun b14 => ?_) (fun b14 => ?_)
  replace h := ite_t b14 h
  refine T_reg [] [0] [1, 2, 21] (mk 109 [(0, (db false))] []) _ (by kernel_rfl) (z2 zt) ?_
  refine T_ret ?_
  obtain rfl := some_inv h
  exact ret_here [(db false)] (by kernel_rfl) (.inl rfl)
  replace h := ite_f b14 h
  refine T_skip ?_
  obtain ⟨r_15, e16, h⟩ := bd_inv h
  rcases Bool.eq_false_or_eq_true (r_15) with b17 | b17
  replace h := ite_t b17 h
  obtain ⟨r_18, e19, h⟩ := bd_inv h
  rcases Bool.eq_false_or_eq_true (r_18) with b20 | b20
  replace h := ite_t b20 h
  obtain ⟨r_21, e22, h⟩ := bd_inv h
  rcases Bool.eq_false_or_eq_true (r_21 == 0) with b23 | b23
  replace h := ite_t b23 h
  obtain ⟨r_24, e25, h⟩ := bd_inv h
  rcases Bool.eq_false_or_eq_true (r_24 == 420) with b26 | b26
  replace h := ite_t b26 h
  obtain ⟨r_27, e28, h⟩ := bd_inv h
  refine T_reg (hl 25 [(4, (zd (B (r_15)))), (8, (zd (B (r_18)))), (9, (zd (B true))), (12, (zd (I r_21))), (14, (zd (B true))), (17, (zd (I r_24))), (19, (zd (B true))), (22, (zd (I r_27))), (24, (zd (B true)))]) [0] [91, 87, 1, 2, 21] (mk 109 [(0, (db (r_27 == 420)))] []) _ (by kernel_rfl) (z7 (zc (show dfill (fun i => some (i * 2, 2)) (List.replicate (2 * 2) .junk) [(0, [(.dat (I 4)), (.dat (I 51))]), (1, [(.dat (I 9)), (.dat (I 50))])] = some ((flat ([(⟨4, 51⟩ : Pay), (⟨9, 50⟩ : Pay)].map encPay)).map .dat) from rfl) (z1 (zc (g_ref42_Same_ret e16) (z2 (zc (gd_tt b17) (z1 (zc (gd_tt b17) (zc (show dfill (fun i => some (i * 1, 1)) (List.replicate (2 * 1) .junk) [(0, [(.dat (I 4))]), (1, [(.dat (I 9))])] = some ((flat ([(4 : Int), (9 : Int)].map elI)).map .dat) from rfl) (zc (gd_tt b17) (zc (g_ref42_SameInts_ret e19) (z1 (zc b17 (z2 (zc (gd_tt b20) (z1 (zc (gd_tt b20) (zc (g_prizes_Check_ret e22) (zc (gd_tt b20) (z2 (zc b20 (z2 (zc (gd_tt b23) (z1 (zc (gd_tt b23) (zc (g_prizes_Check_ret e25) (zc (gd_tt b23) (z2 (zc b23 (z2 (zc (gd_tt b26) (z1 (zc (gd_tt b26) (zc (show Ret Try.prog 13 [(.agg [(I 0), nilS, (I 0), (I 0), (I 0), (I 0)])] (I r_27) from (Ret.weak (g_prizes_Check_ret e28) ⟨(Weak.agg ⟨Weak.refl _, Weak.nil 3, Weak.refl _, Weak.refl _, Weak.refl _, Weak.refl _, trivial⟩), trivial⟩)) (zc (gd_tt b26) (z2 (zc b26 (z2 zt)))))))))))))))))))))))))))))))))))))) ?_
  refine T_ret ?_
  obtain rfl := some_inv h
  exact ret_here [(db (r_27 == 420))] (by kernel_rfl) (.inl rfl)
  replace h := ite_f b26 h
  refine T_reg [zn, zn, zn, zn, (zd (B (r_15))), zn, zn, zn, (zd (B (r_18))), (zd (B true)), zn, zn, (zd (I r_21)), zn, (zd (B true)), zn, zn, (zd (I r_24)), zn, (zd (B true)), zn, zg, zg, zg, (zd (B false))] [0] [91, 87, 1, 2, 21] (mk 109 [(0, (db false))] []) _ (by kernel_rfl) (z7 (zc (show dfill (fun i => some (i * 2, 2)) (List.replicate (2 * 2) .junk) [(0, [(.dat (I 4)), (.dat (I 51))]), (1, [(.dat (I 9)), (.dat (I 50))])] = some ((flat ([(⟨4, 51⟩ : Pay), (⟨9, 50⟩ : Pay)].map encPay)).map .dat) from rfl) (z1 (zc (g_ref42_Same_ret e16) (z2 (zc (gd_tt b17) (z1 (zc (gd_tt b17) (zc (show dfill (fun i => some (i * 1, 1)) (List.replicate (2 * 1) .junk) [(0, [(.dat (I 4))]), (1, [(.dat (I 9))])] = some ((flat ([(4 : Int), (9 : Int)].map elI)).map .dat) from rfl) (zc (gd_tt b17) (zc (g_ref42_SameInts_ret e19) (z1 (zc b17 (z2 (zc (gd_tt b20) (z1 (zc (gd_tt b20) (zc (g_prizes_Check_ret e22) (zc (gd_tt b20) (z2 (zc b20 (z2 (zc (gd_tt b23) (z1 (zc (gd_tt b23) (zc (g_prizes_Check_ret e25) (zc (gd_tt b23) (z2 (zc b23 (z2 (zc (gd_ft b26) (zc (gd_ft b26) (zc (gd_ft b26) (z1 (zc b26 (z2 zt)))))))))))))))))))))))))))))))))))) ?_
  refine T_ret ?_
  obtain rfl := some_inv h
  exact ret_here [(db false)] (by kernel_rfl) (.inl rfl)
  replace h := ite_f b23 h
  refine T_reg [zn, zn, zn, zn, (zd (B (r_15))), zn, zn, zn, (zd (B (r_18))), (zd (B true)), zn, zn, (zd (I r_21)), zn, (zd (B true)), zn, zg, zg, zg, (zd (B false)), zn, zg, zg, zg, (zd (B false))] [0] [91, 87, 1, 2, 21] (mk 109 [(0, (db false))] []) _ (by kernel_rfl) (z7 (zc (show dfill (fun i => some (i * 2, 2)) (List.replicate (2 * 2) .junk) [(0, [(.dat (I 4)), (.dat (I 51))]), (1, [(.dat (I 9)), (.dat (I 50))])] = some ((flat ([(⟨4, 51⟩ : Pay), (⟨9, 50⟩ : Pay)].map encPay)).map .dat) from rfl) (z1 (zc (g_ref42_Same_ret e16) (z2 (zc (gd_tt b17) (z1 (zc (gd_tt b17) (zc (show dfill (fun i => some (i * 1, 1)) (List.replicate (2 * 1) .junk) [(0, [(.dat (I 4))]), (1, [(.dat (I 9))])] = some ((flat ([(4 : Int), (9 : Int)].map elI)).map .dat) from rfl) (zc (gd_tt b17) (zc (g_ref42_SameInts_ret e19) (z1 (zc b17 (z2 (zc (gd_tt b20) (z1 (zc (gd_tt b20) (zc (g_prizes_Check_ret e22) (zc (gd_tt b20) (z2 (zc b20 (z2 (zc (gd_ft b23) (zc (gd_ft b23) (zc (gd_ft b23) (z1 (zc b23 (z2 (zc (gd_ft (rfl : false = false)) (zc (gd_ft (rfl : false = false)) (zc (gd_ft (rfl : false = false)) (z1 (zc (rfl : false = false) (z2 zt)))))))))))))))))))))))))))))))))) ?_
  refine T_ret ?_
  obtain rfl := some_inv h
  exact ret_here [(db false)] (by kernel_rfl) (.inl rfl)
  replace h := ite_f b20 h
  refine T_reg [zn, zn, zn, zn, (zd (B (r_15))), zn, zn, zn, (zd (B (r_18))), (zd (B true)), zn, zg, zg, zg, (zd (B false)), zn, zg, zg, zg, (zd (B false)), zn, zg, zg, zg, (zd (B false))] [0] [91, 87, 1, 2, 21] (mk 109 [(0, (db false))] []) _ (by kernel_rfl) (z7 (zc (show dfill (fun i => some (i * 2, 2)) (List.replicate (2 * 2) .junk) [(0, [(.dat (I 4)), (.dat (I 51))]), (1, [(.dat (I 9)), (.dat (I 50))])] = some ((flat ([(⟨4, 51⟩ : Pay), (⟨9, 50⟩ : Pay)].map encPay)).map .dat) from rfl) (z1 (zc (g_ref42_Same_ret e16) (z2 (zc (gd_tt b17) (z1 (zc (gd_tt b17) (zc (show dfill (fun i => some (i * 1, 1)) (List.replicate (2 * 1) .junk) [(0, [(.dat (I 4))]), (1, [(.dat (I 9))])] = some ((flat ([(4 : Int), (9 : Int)].map elI)).map .dat) from rfl) (zc (gd_tt b17) (zc (g_ref42_SameInts_ret e19) (z1 (zc b17 (z2 (zc (gd_ft b20) (zc (gd_ft b20) (zc (gd_ft b20) (z1 (zc b20 (z2 (zc (gd_ft (rfl : false = false)) (zc (gd_ft (rfl : false = false)) (zc (gd_ft (rfl : false = false)) (z1 (zc (rfl : false = false) (z2 (zc (gd_ft (rfl : false = false)) (zc (gd_ft (rfl : false = false)) (zc (gd_ft (rfl : false = false)) (z1 (zc (rfl : false = false) (z2 zt)))))))))))))))))))))))))))))))) ?_
  refine T_ret ?_
  obtain rfl := some_inv h
  exact ret_here [(db false)] (by kernel_rfl) (.inl rfl)
  replace h := ite_f b17 h
  refine T_reg [zn, zn, zn, zn, (zd (B (r_15))), zn, zg, zg, zg, (zd (B false)), zn, zg, zg, zg, (zd (B false)), zn, zg, zg, zg, (zd (B false)), zn, zg, zg, zg, (zd (B false))] [0] [87, 1, 2, 21] (mk 109 [(0, (db false))] []) _ (by kernel_rfl) (z7 (zc (show dfill (fun i => some (i * 2, 2)) (List.replicate (2 * 2) .junk) [(0, [(.dat (I 4)), (.dat (I 51))]), (1, [(.dat (I 9)), (.dat (I 50))])] = some ((flat ([(⟨4, 51⟩ : Pay), (⟨9, 50⟩ : Pay)].map encPay)).map .dat) from rfl) (z1 (zc (g_ref42_Same_ret e16) (z2 (zc (gd_ft b17) (zc (gd_ft b17) (zc (gd_ft b17) (z1 (zc b17 (z2 (zc (gd_ft (rfl : false = false)) (zc (gd_ft (rfl : false = false)) (zc (gd_ft (rfl : false = false)) (z1 (zc (rfl : false = false) (z2 (zc (gd_ft (rfl : false = false)) (zc (gd_ft (rfl : false = false)) (zc (gd_ft (rfl : false = false)) (z1 (zc (rfl : false = false) (z2 (zc (gd_ft (rfl : false = false)) (zc (gd_ft (rfl : false = false)) (zc (gd_ft (rfl : false = false)) (z1 (zc (rfl : false = false) (z2 zt))))))))))))))))))))))))))))) ?_
  refine T_ret ?_
  obtain rfl := some_inv h
  exact ret_here [(db false)] (by kernel_rfl) (.inl rfl)
  rcases Bool.eq_false_or_eq_true (r_3.2 != 0) with b29 | b29
  replace h := ite_t b29 h
  exact T_regJ [zn, zn, zn, zg, zg, (zd (B true)), zn, zg, zg, (zd (B true)), zn, zg, zg, zg, zg, (zd (B true)), zn, zg, zg, (zd (B true)), zn, zg, zg, (zd (B true))] [] [1, 2, 3, 5, 83] [] [1, 2, 21] _ _ (by kernel_rfl) (z6 (zc (gd_tf b29) (zc (gd_tf b29) (z1 (zc b29 (z2 (zc (gd_tf (rfl : true = true)) (zc (gd_tf (rfl : true = true)) (z1 (zc (rfl : true = true) (z2 (zc (gd_tf (rfl : true = true)) (zc (gd_tf (rfl : true = true)) (zc (gd_tf (rfl : true = true)) (zc (gd_tf (rfl : true = true)) (z1 (zc (rfl : true = true) (z2 (zc (gd_tf (rfl : true = true)) (zc (gd_tf (rfl : true = true)) (z1 (zc (rfl : true = true) (z2 (zc (gd_tf (rfl : true = true)) (zc (gd_tf (rfl : true = true)) (z1 (zc (rfl : true = true) zt))))))))))))))))))))))))))) (fun s hs => Exists.intro true (And.intro h hs))
  replace h := ite_f b29 h
  rcases Bool.eq_false_or_eq_true (r_5.2 != 0) with b30 | b30
  replace h := ite_t b30 h
  exact T_regJ [zn, zn, zn, zn, zn, (zd (B false)), zn, zg, zg, (zd (B true)), zn, zg, zg, zg, zg, (zd (B true)), zn, zg, zg, (zd (B true)), zn, zg, zg, (zd (B true))] [] [1, 2, 3, 5, 83] [] [1, 2, 21] _ _ (by kernel_rfl) (z6 (zc (gd_ff b29) (z1 (zc (gd_ff b29) (z2 (zc b29 (z2 (zc (gd_tf b30) (zc (gd_tf b30) (z1 (zc b30 (z2 (zc (gd_tf (rfl : true = true)) (zc (gd_tf (rfl : true = true)) (zc (gd_tf (rfl : true = true)) (zc (gd_tf (rfl : true = true)) (z1 (zc (rfl : true = true) (z2 (zc (gd_tf (rfl : true = true)) (zc (gd_tf (rfl : true = true)) (z1 (zc (rfl : true = true) (z2 (zc (gd_tf (rfl : true = true)) (zc (gd_tf (rfl : true = true)) (z1 (zc (rfl : true = true) zt)))))))))))))))))))))))))))) (fun s hs => Exists.intro true (And.intro h hs))
  replace h := ite_f b30 h
  rcases Bool.eq_false_or_eq_true (r_7.2 != 420) with b31 | b31
  replace h := ite_t b31 h
  exact T_regJ [zn, zn, zn, zn, zn, (zd (B false)), zn, zn, zn, (zd (B false)), zn, zg, zg, zg, zg, (zd (B true)), zn, zg, zg, (zd (B true)), zn, zg, zg, (zd (B true))] [] [1, 2, 3, 5, 83] [] [1, 2, 21] _ _ (by kernel_rfl) (z6 (zc (gd_ff b29) (z1 (zc (gd_ff b29) (z2 (zc b29 (z2 (zc (gd_ff b30) (z1 (zc (gd_ff b30) (z2 (zc b30 (z2 (zc (gd_tf b31) (zc (gd_tf b31) (zc (gd_tf b31) (zc (gd_tf b31) (z1 (zc b31 (z2 (zc (gd_tf (rfl : true = true)) (zc (gd_tf (rfl : true = true)) (z1 (zc (rfl : true = true) (z2 (zc (gd_tf (rfl : true = true)) (zc (gd_tf (rfl : true = true)) (z1 (zc (rfl : true = true) zt))))))))))))))))))))))))))))) (fun s hs => Exists.intro true (And.intro h hs))
  replace h := ite_f b31 h
  obtain ⟨r_32, e33, h⟩ := bd_inv h
  rcases Bool.eq_false_or_eq_true (r_9.2 != r_32) with b34 | b34
  replace h := ite_t b34 h
  exact T_regJ [zn, zn, zn, zn, zn, (zd (B false)), zn, zn, zn, (zd (B false)), zn, zn, zn, (zd (I r_32)), zn, (zd (B false)), zn, zg, zg, (zd (B true)), zn, zg, zg, (zd (B true))] [] [1, 2, 3, 5, 83] [] [1, 2, 21] _ _ (by kernel_rfl) (z6 (zc (gd_ff b29) (z1 (zc (gd_ff b29) (z2 (zc b29 (z2 (zc (gd_ff b30) (z1 (zc (gd_ff b30) (z2 (zc b30 (z2 (zc (gd_ff b31) (z1 (zc (gd_ff b31) (z1 (zc (gd_ff b31) (zc (show Ret Try.prog 10 [(.agg [(I 0), (I 0), nilS])] (I r_32) from (Ret.weak (g_table_Check_ret e33) ⟨(Weak.agg ⟨Weak.refl _, Weak.refl _, Weak.nil 14, trivial⟩), trivial⟩)) (zc (gd_ff b31) (z2 (zc b31 (z2 (zc (gd_tf b34) (zc (gd_tf b34) (z1 (zc b34 (z2 (zc (gd_tf (rfl : true = true)) (zc (gd_tf (rfl : true = true)) (z1 (zc (rfl : true = true) zt)))))))))))))))))))))))))))))))) (fun s hs => Exists.intro true (And.intro h hs))
  replace h := ite_f b34 h
  rcases Bool.eq_false_or_eq_true (r_9.2 == 0) with b35 | b35
  replace h := ite_t b35 h
  exact T_regJ (hl 24 [(5, (zd (B false))), (9, (zd (B false))), (13, (zd (I r_32))), (15, (zd (B false))), (19, (zd (B false))), (21, zg), (22, zg), (23, (zd (B true)))]) [] [1, 2, 3, 5, 83] [] [1, 2, 21] _ _ (by kernel_rfl) (z6 (zc (gd_ff b29) (z1 (zc (gd_ff b29) (z2 (zc b29 (z2 (zc (gd_ff b30) (z1 (zc (gd_ff b30) (z2 (zc b30 (z2 (zc (gd_ff b31) (z1 (zc (gd_ff b31) (z1 (zc (gd_ff b31) (zc (show Ret Try.prog 10 [(.agg [(I 0), (I 0), nilS])] (I r_32) from (Ret.weak (g_table_Check_ret e33) ⟨(Weak.agg ⟨Weak.refl _, Weak.refl _, Weak.nil 14, trivial⟩), trivial⟩)) (zc (gd_ff b31) (z2 (zc b31 (z2 (zc (gd_ff b34) (z1 (zc (gd_ff b34) (z2 (zc b34 (z2 (zc (gd_tf b35) (zc (gd_tf b35) (z1 (zc b35 zt))))))))))))))))))))))))))))))))) (fun s hs => Exists.intro true (And.intro h hs))
  replace h := ite_f b35 h
  exact T_regJ (hl 24 [(5, (zd (B false))), (9, (zd (B false))), (13, (zd (I r_32))), (15, (zd (B false))), (19, (zd (B false))), (23, (zd (B false)))]) [] [1, 2, 3, 5, 83] [] [1, 2, 21] _ _ (by kernel_rfl) (z6 (zc (gd_ff b29) (z1 (zc (gd_ff b29) (z2 (zc b29 (z2 (zc (gd_ff b30) (z1 (zc (gd_ff b30) (z2 (zc b30 (z2 (zc (gd_ff b31) (z1 (zc (gd_ff b31) (z1 (zc (gd_ff b31) (zc (show Ret Try.prog 10 [(.agg [(I 0), (I 0), nilS])] (I r_32) from (Ret.weak (g_table_Check_ret e33) ⟨(Weak.agg ⟨Weak.refl _, Weak.refl _, Weak.nil 14, trivial⟩), trivial⟩)) (zc (gd_ff b31) (z2 (zc b31 (z2 (zc (gd_ff b34) (z1 (zc (gd_ff b34) (z2 (zc b34 (z2 (zc (gd_ff b35) (z1 (zc (gd_ff b35) (z2 (zc b35 zt)))))))))))))))))))))))))))))))))) (fun s hs => Exists.intro (r_11.2.2 != 420) (And.intro h hs))

theorem g_ref42_Few_ret {tables_1 : List Tab} {schemes_2 : List Sch} {r : Bool} (h : g_ref42_Few tables_1 schemes_2 = some r) : Ret Try.prog 5 [(.sl 3 (tables_1.map encTab)), (.sl 6 (schemes_2.map encSch))] (B (r)) := by
  refine Ret.of_T Try.func5 (by kernel_rfl) rfl ?_
  refine T_turn [] [0, 1] [] (mk 41 [(0, (dt (.sl 3 (tables_1.map encTab)))), (1, (dt (.sl 6 (schemes_2.map encSch))))] []) (by kernel_rfl) ?_
  refine T_reg [] [0, 1] [] (mk 41 [(0, (dt (.sl 3 (tables_1.map encTab)))), (1, (dt (.sl 6 (schemes_2.map encSch))))] []) _ (by kernel_rfl) (z2 zt) ?_
  refine T_seq ?_
  refine T_seqJ (α := Bool) (fun (v_3 : Bool) => (mk 41 [(0, (dt (.sl 3 (tables_1.map encTab)))), (1, (dt (.sl 6 (schemes_2.map encSch)))), (14, (db (v_3)))] [])) (fun (v_3 : Bool) => g_ref42_Few_j1 tables_1 schemes_2 v_3 = some r) (fun v_3 h => ?_) ?_
  refine T_cond (v_3) (by kernel_rfl) (fun b4 => ?_) (fun b4 => ?_)
  replace h := ite_t b4 h
  refine T_reg [] [4] [] (mk 41 [(4, (db false))] []) _ (by kernel_rfl) (z2 zt) ?_
  refine T_ret ?_
  obtain rfl := some_inv h
  exact ret_here [(db false)] (by kernel_rfl) (.inl rfl)
  replace h := ite_f b4 h
  refine T_skip ?_
  refine T_seqJ (α := Unit) (fun (_ : Unit) => (mk 41 [(1, (dt (.sl 6 (schemes_2.map encSch))))] [])) (fun (_ : Unit) => g_ref42_Few_j2 schemes_2 = some r) (fun v h => ?_) ?_
  refine T_seqJ (α := Unit) (fun (_ : Unit) => (mk 41 [] [])) (fun (_ : Unit) => g_ref42_Few_j3 = some r) (fun v h => ?_) ?_
  refine T_reg [] [4] [] (mk 41 [(4, (db true))] []) _ (by kernel_rfl) (z2 zt) ?_
  refine T_ret ?_
  obtain rfl := some_inv h
  exact ret_here [(db true)] (by kernel_rfl) (.inl rfl)
  refine T_reg [] [1, 6] [] (mk 41 [(1, (dt (.sl 6 (schemes_2.map encSch)))), (6, (di 0))] []) _ (by kernel_rfl) (z2 zt) ?_
  refine T_block ?_
  refine T_arr [] [1, 6] [] [] _ (by kernel_rfl) (T_loopO (σ := Nat) (fun (i_5 : Nat) => (mk 41 [(1, (dt (.sl 6 (schemes_2.map encSch)))), (6, (di ((i_5 : Nat) : Int)))] [])) (g_ref42_Few_l4 schemes_2) 0 h (fun i_5 y1 hy1 h => ?_))
  refine T_seq ?_
  refine T_reg [zn, zn, (zd (I ((schemes_2.length : Nat) : Int)))] [1, 6, 31] [] (mk 41 [(1, (dt (.sl 6 (schemes_2.map encSch)))), (6, (di ((i_5 : Nat) : Int))), (31, (db (decide (((i_5 : Nat) : Int) < ((schemes_2.length : Nat) : Int)))))] []) _ (by kernel_rfl) (z5 (zc (len_s encSch schemes_2) (z2 zt))) ?_
  refine T_cond (decide (((i_5 : Nat) : Int) < ((schemes_2.length : Nat) : Int))) (by kernel_rfl) (fun b7 => ?_) (fun b7 => ?_)
  replace h := ite_t b7 h
  refine T_skip ?_
  refine T_seq ?_
  refine T_block ?_
  obtain ⟨x_8, e9, e10, e11, h⟩ := gn_inv encSch h
  refine T_reg [zn, zn, (zd (encSch x_8)), zn, zn, (zd (I ((x_8.p.length : Nat) : Int)))] [1, 6, 40] [] (mk 41 [(1, (dt (.sl 6 (schemes_2.map encSch)))), (6, (di ((i_5 : Nat) : Int))), (40, (db (decide (((x_8.p.length : Nat) : Int) > 30))))] []) _ (by kernel_rfl) (z5 (zc e9 (z5 (zc (len_s encPrize x_8.p) (z2 zt))))) ?_
  refine T_cond (decide (((x_8.p.length : Nat) : Int) > 30)) (by kernel_rfl) (fun b12 => ?_) (fun b12 => ?_)
  replace h := ite_t b12 h
  refine T_reg [] [4] [] (mk 41 [(4, (db false))] []) _ (by kernel_rfl) (z2 zt) ?_
  refine T_ret ?_
  replace h := up_inv h hy1
  obtain rfl := some_inv h
  exact ret_here [(db false)] (by kernel_rfl) (.inl rfl)
  replace h := ite_f b12 h
  refine T_skip ?_
  obtain ⟨c13, h⟩ := ckI_inv h
  exact T_regJ [zn, (zd (I ((i_5 + 1 : Nat) : Int)))] [] [1, 6] [] [] _ _ (by kernel_rfl) (z3 (zc c13 (z2 zt))) (fun s hs => Exists.intro (i_5 + 1) (And.intro h hs))
  replace h := ite_f b7 h
  refine T_exit ?_
  replace h := up_inv h hy1
  exact Exists.intro () (And.intro h (arr [] [] [] [] (by kernel_rfl)))
  refine T_reg [] [0, 1, 5] [] (mk 41 [(0, (dt (.sl 3 (tables_1.map encTab)))), (1, (dt (.sl 6 (schemes_2.map encSch)))), (5, (di 0))] []) _ (by kernel_rfl) (z2 zt) ?_
  refine T_block ?_
  refine T_arr [] [0, 1, 5] [] [] _ (by kernel_rfl) (T_loopO (σ := Nat) (fun (i_14 : Nat) => (mk 41 [(0, (dt (.sl 3 (tables_1.map encTab)))), (1, (dt (.sl 6 (schemes_2.map encSch)))), (5, (di ((i_14 : Nat) : Int)))] [])) (g_ref42_Few_l5 tables_1 schemes_2) 0 h (fun i_14 y1 hy1 h => ?_))
  refine T_seq ?_
  refine T_reg [zn, zn, (zd (I ((tables_1.length : Nat) : Int)))] [0, 1, 5, 18] [] (mk 41 [(0, (dt (.sl 3 (tables_1.map encTab)))), (1, (dt (.sl 6 (schemes_2.map encSch)))), (5, (di ((i_14 : Nat) : Int))), (18, (db (decide (((i_14 : Nat) : Int) < ((tables_1.length : Nat) : Int)))))] []) _ (by kernel_rfl) (z5 (zc (len_s encTab tables_1) (z2 zt))) ?_
  refine T_cond (decide (((i_14 : Nat) : Int) < ((tables_1.length : Nat) : Int))) (by kernel_rfl) (fun b16 => ?_) (fun b16 => ?_)
  replace h := ite_t b16 h
  refine T_skip ?_
  refine T_seq ?_
  refine T_block ?_
  obtain ⟨x_17, e18, e19, e20, h⟩ := gn_inv encTab h
  refine T_reg [zn, zn, (zd (encTab x_17)), zn, zn, (zd (I ((x_17.l.length : Nat) : Int)))] [0, 1, 5, 27] [] (mk 41 [(0, (dt (.sl 3 (tables_1.map encTab)))), (1, (dt (.sl 6 (schemes_2.map encSch)))), (5, (di ((i_14 : Nat) : Int))), (27, (db (decide (((x_17.l.length : Nat) : Int) > 30))))] []) _ (by kernel_rfl) (z5 (zc e18 (z5 (zc (len_s encPlace x_17.l) (z2 zt))))) ?_
  refine T_cond (decide (((x_17.l.length : Nat) : Int) > 30)) (by kernel_rfl) (fun b21 => ?_) (fun b21 => ?_)
  replace h := ite_t b21 h
  refine T_reg [] [4] [] (mk 41 [(4, (db false))] []) _ (by kernel_rfl) (z2 zt) ?_
  refine T_ret ?_
  replace h := up_inv h hy1
  obtain rfl := some_inv h
  exact ret_here [(db false)] (by kernel_rfl) (.inl rfl)
  replace h := ite_f b21 h
  refine T_skip ?_
  obtain ⟨c22, h⟩ := ckI_inv h
  exact T_regJ [zn, (zd (I ((i_14 + 1 : Nat) : Int)))] [] [0, 1, 5] [] [] _ _ (by kernel_rfl) (z3 (zc c22 (z2 zt))) (fun s hs => Exists.intro (i_14 + 1) (And.intro h hs))
  replace h := ite_f b16 h
  refine T_exit ?_
  replace h := up_inv h hy1
  exact Exists.intro () (And.intro h (arr [] [1] [] [] (by kernel_rfl)))
  rcases Bool.eq_false_or_eq_true (decide (((tables_1.length : Nat) : Int) > 5)) with b23 | b23
  replace h := ite_t b23 h
  exact T_regJ [zn, (zd (I ((tables_1.length : Nat) : Int))), zn, zn, zg, zg, zg, (zd (B true))] [] [0, 1, 14] [] [] _ _ (by kernel_rfl) (z3 (zc (len_s encTab tables_1) (z4 (zc (gd_tf b23) (zc (gd_tf b23) (zc (gd_tf b23) (z1 (zc b23 zt)))))))) (fun s hs => Exists.intro true (And.intro h hs))
  replace h := ite_f b23 h
  exact T_regJ [zn, (zd (I ((tables_1.length : Nat) : Int))), zn, zn, zn, (zd (I ((schemes_2.length : Nat) : Int))), zn, (zd (B false))] [] [0, 1, 14] [] [] _ _ (by kernel_rfl) (z3 (zc (len_s encTab tables_1) (z4 (zc (gd_ff b23) (z1 (zc (gd_ff b23) (zc (len_s encSch schemes_2) (zc (gd_ff b23) (z2 (zc b23 zt)))))))))) (fun s hs => Exists.intro (decide (((schemes_2.length : Nat) : Int) > 5)) (And.intro h hs))

end Go.Proofs.Ytoiiblkncbnlaaa

/-
  Go functions as partial functions, printed by auto.py: what each returns when its partial function has a value. Conditions: those of each theorem.
-/
namespace Go.Proofs.Ytoiiblkncbnlaaa
open Go.DL
set_option maxRecDepth 100000
set_option maxHeartbeats 4000000
set_option linter.unusedVariables false
set_option linter.unusedSimpArgs false
theorem g_law42_PrizesConserve_ret {tables_1 : List Tab} {schemes_2 : List Sch} {r : Bool} (h : g_law42_PrizesConserve tables_1 schemes_2 = some r) : Ret Try.prog 3 [(.sl 3 (tables_1.map encTab)), (.sl 6 (schemes_2.map encSch))] (B (r)) := by
  refine Ret.of_T Try.func3 (by kernel_rfl) rfl ?_
  refine T_turn [] [0, 1] [] (mk 208 [(0, (dt (.sl 3 (tables_1.map encTab)))), (1, (dt (.sl 6 (schemes_2.map encSch))))] []) (by kernel_rfl) ?_
  refine T_reg [] [0, 1] [] (mk 208 [(0, (dt (.sl 3 (tables_1.map encTab)))), (1, (dt (.sl 6 (schemes_2.map encSch))))] []) _ (by kernel_rfl) (z2 zt) ?_
  refine T_seq ?_
  obtain ⟨r_3, e4, h⟩ := bd_inv h
  refine T_reg [(zd (B (r_3)))] [0, 1, 25] [] (mk 208 [(0, (dt (.sl 3 (tables_1.map encTab)))), (1, (dt (.sl 6 (schemes_2.map encSch)))), (25, (db (!(r_3))))] []) _ (by kernel_rfl) (z1 (zc (g_law42_sane_ret e4) (z2 zt))) ?_
  refine T_cond (!(r_3)) (by kernel_rfl) (fun b5 => ?_) (fun b5 => ?_)
  replace h := ite_t b5 h
  refine T_reg [] [4] [] (mk 208 [(4, (db false))] []) _ (by kernel_rfl) (z2 zt) ?_
  refine T_ret ?_
  obtain rfl := some_inv h
  exact ret_here [(db false)] (by kernel_rfl) (.inl rfl)
  replace h := ite_f b5 h
  refine T_skip ?_
  refine T_seq ?_
  refine T_seqJ (α := Bool) (fun (v_6 : Bool) => (mk 208 [(0, (dt (.sl 3 (tables_1.map encTab)))), (1, (dt (.sl 6 (schemes_2.map encSch)))), (36, (db (v_6)))] [])) (fun (v_6 : Bool) => g_law42_PrizesConserve_j1 tables_1 schemes_2 v_6 = some r) (fun v_6 h => ?_) ?_
  refine T_cond (v_6) (by kernel_rfl) (fun b7 => ?_) (fun b7 => ?_)
  replace h := ite_t b7 h
  refine T_reg [] [4] [] (mk 208 [(4, (db true))] []) _ (by kernel_rfl) (z2 zt) ?_
  refine T_ret ?_
  obtain rfl := some_inv h
  exact ret_here [(db true)] (by kernel_rfl) (.inl rfl)
  replace h := ite_f b7 h
  refine T_skip ?_
  refine T_seq (T_parts ?_)
  refine TL_makeMapE 26 3 30 37 37 rfl rfl rfl (by kernel_rfl) (by decide) ?_
  refine TL_turn [] [0, 1, 37] [] (mk 208 [(0, (dt (.sl 3 (tables_1.map encTab)))), (1, (dt (.sl 6 (schemes_2.map encSch)))), (37, (ow 37))] [(37, (.mapl Try.prog 3 (mapE encSch ([] : List (Int × Sch)))))]) (by kernel_rfl) ?_
  refine TL_part 1 [] (mk 208 [(0, (dt (.sl 3 (tables_1.map encTab)))), (1, (dt (.sl 6 (schemes_2.map encSch)))), (5, (ow 37)), (37, (ow 37))] [(37, (.mapl Try.prog 3 (mapE encSch ([] : List (Int × Sch)))))]) _ (by kernel_rfl) (z2 zt) rfl ?_
  refine TL_nilQ ?_
  refine T_turn [] [0, 1, 5] [] (mk 208 [(0, (dt (.sl 3 (tables_1.map encTab)))), (1, (dt (.sl 6 (schemes_2.map encSch)))), (5, (ow 37))] [(37, (.mapl Try.prog 3 (mapE encSch ([] : List (Int × Sch)))))]) (by kernel_rfl) ?_
  refine T_seq (T_parts ?_)
  refine TL_makeMap 27 3 4 38 38 rfl rfl rfl (by kernel_rfl) (by decide) ?_
  refine TL_turn [] [0, 1, 5, 38] [] (mk 208 [(0, (dt (.sl 3 (tables_1.map encTab)))), (1, (dt (.sl 6 (schemes_2.map encSch)))), (5, (ow 37)), (38, (ow 38))] [(38, (.map Try.prog 3 4 (mapS ([] : List Int)))), (37, (.mapl Try.prog 3 (mapE encSch ([] : List (Int × Sch)))))]) (by kernel_rfl) ?_
  refine TL_part 1 [] (mk 208 [(0, (dt (.sl 3 (tables_1.map encTab)))), (1, (dt (.sl 6 (schemes_2.map encSch)))), (5, (ow 37)), (6, (ow 38)), (38, (ow 38))] [(38, (.map Try.prog 3 4 (mapS ([] : List Int)))), (37, (.mapl Try.prog 3 (mapE encSch ([] : List (Int × Sch)))))]) _ (by kernel_rfl) (z2 zt) rfl ?_
  refine TL_nilQ ?_
  refine T_turn [] [0, 1, 5, 6] [] (mk 208 [(0, (dt (.sl 3 (tables_1.map encTab)))), (1, (dt (.sl 6 (schemes_2.map encSch)))), (5, (ow 37)), (6, (ow 38))] [(38, (.map Try.prog 3 4 (mapS ([] : List Int)))), (37, (.mapl Try.prog 3 (mapE encSch ([] : List (Int × Sch)))))]) (by kernel_rfl) ?_
  refine T_reg [] [0, 1, 5, 6, 7] [] (mk 208 [(0, (dt (.sl 3 (tables_1.map encTab)))), (1, (dt (.sl 6 (schemes_2.map encSch)))), (5, (ow 37)), (6, (ow 38)), (7, (di 0))] [(38, (.map Try.prog 3 4 (mapS ([] : List Int)))), (37, (.mapl Try.prog 3 (mapE encSch ([] : List (Int × Sch)))))]) _ (by kernel_rfl) (z2 zt) ?_
  refine T_seqJ (α := Nat × (List (Int × Sch)) × (List Int)) (fun ((all_8, m_9, m_10) : Nat × (List (Int × Sch)) × (List Int)) => (mk 208 [(0, (dt (.sl 3 (tables_1.map encTab)))), (1, (dt (.sl 6 (schemes_2.map encSch)))), (5, (ow 37)), (6, (ow 38)), (7, (di ((all_8 : Nat) : Int)))] [(37, (.mapl Try.prog 3 (mapE encSch m_9))), (38, (.map Try.prog 3 4 (mapS m_10)))])) (fun ((all_8, m_9, m_10) : Nat × (List (Int × Sch)) × (List Int)) => g_law42_PrizesConserve_j2 schemes_2 tables_1 all_8 m_9 m_10 = some r) (fun v h => ?_) ?_
  obtain ⟨all_8, m_9, m_10⟩ := v
  refine T_seq ?_
  refine T_reg [zn, (zd (I ((m_10.length : Nat) : Int)))] [0, 1, 5, 6, 105] [] (mk 208 [(0, (dt (.sl 3 (tables_1.map encTab)))), (1, (dt (.sl 6 (schemes_2.map encSch)))), (5, (ow 37)), (6, (ow 38)), (105, (db (((m_10.length : Nat) : Int) != ((all_8 : Nat) : Int))))] [(37, (.mapl Try.prog 3 (mapE encSch m_9))), (38, (.map Try.prog 3 4 (mapS m_10)))]) _ (by kernel_rfl) (z3 (zc (And.intro (And.intro (rfl : Try.prog = Try.prog) (show Try.prog.underlying 27 = some (.map 3 4) by kernel_rfl)) (lenS m_10)) (z4 zt))) ?_
  refine T_cond (((m_10.length : Nat) : Int) != ((all_8 : Nat) : Int)) (by kernel_rfl) (fun b11 => ?_) (fun b11 => ?_)
  replace h := ite_t b11 h
  refine T_reg [] [4] [37, 38] (mk 208 [(4, (db true))] []) _ (by kernel_rfl) (z2 zt) ?_
  refine T_ret ?_
  obtain rfl := some_inv h
  exact ret_here [(db true)] (by kernel_rfl) (.inl rfl)
  replace h := ite_f b11 h
  refine T_skip ?_
  refine T_seqJ (α := Unit) (fun (_ : Unit) => (mk 208 [(0, (dt (.sl 3 (tables_1.map encTab)))), (1, (dt (.sl 6 (schemes_2.map encSch)))), (6, (ow 38))] [(38, (.map Try.prog 3 4 (mapS m_10)))])) (fun (_ : Unit) => g_law42_PrizesConserve_j3 tables_1 schemes_2 m_10 = some r) (fun v h => ?_) ?_
  refine T_seq (T_parts ?_)
  refine TL_makeMap 39 3 3 160 160 rfl rfl rfl (by kernel_rfl) (by decide) ?_
  refine TL_turn [] [0, 1, 6, 160] [] (mk 208 [(0, (dt (.sl 3 (tables_1.map encTab)))), (1, (dt (.sl 6 (schemes_2.map encSch)))), (6, (ow 38)), (160, (ow 160))] [(160, (.map Try.prog 3 3 (mapD ([] : List (Int × Int))))), (38, (.map Try.prog 3 4 (mapS m_10)))]) (by kernel_rfl) ?_
  refine TL_part 1 [] (mk 208 [(0, (dt (.sl 3 (tables_1.map encTab)))), (1, (dt (.sl 6 (schemes_2.map encSch)))), (6, (ow 38)), (18, (ow 160)), (160, (ow 160))] [(160, (.map Try.prog 3 3 (mapD ([] : List (Int × Int))))), (38, (.map Try.prog 3 4 (mapS m_10)))]) _ (by kernel_rfl) (z2 zt) rfl ?_
  refine TL_nilQ ?_
  refine T_turn [] [0, 1, 6, 18] [] (mk 208 [(0, (dt (.sl 3 (tables_1.map encTab)))), (1, (dt (.sl 6 (schemes_2.map encSch)))), (6, (ow 38)), (18, (ow 160))] [(160, (.map Try.prog 3 3 (mapD ([] : List (Int × Int))))), (38, (.map Try.prog 3 4 (mapS m_10)))]) (by kernel_rfl) ?_
  refine T_seqJ (α := List (Int × Int)) (fun (m_12 : List (Int × Int)) => (mk 208 [(6, (ow 38)), (18, (ow 160))] [(38, (.map Try.prog 3 4 (mapS m_10))), (160, (.map Try.prog 3 3 (mapD m_12)))])) (fun (m_12 : List (Int × Int)) => g_law42_PrizesConserve_j4 m_10 m_12 = some r) (fun m_12 h => ?_) ?_
  refine T_seqJ (α := Unit) (fun (_ : Unit) => (mk 208 [(6, (ow 38)), (18, (ow 160))] [(38, (.map Try.prog 3 4 (mapS m_10))), (160, (.map Try.prog 3 3 (mapD m_12)))])) (fun (_ : Unit) => g_law42_PrizesConserve_j5 m_12 m_10 = some r) (fun v h => ?_) ?_
  refine T_reg [zn, (zd (I ((m_12.length : Nat) : Int))), zn, (zd (I ((m_10.length : Nat) : Int)))] [4] [38, 160] (mk 208 [(4, (db (((m_12.length : Nat) : Int) == ((m_10.length : Nat) : Int))))] []) _ (by kernel_rfl) (z3 (zc (And.intro (And.intro (rfl : Try.prog = Try.prog) (show Try.prog.underlying 39 = some (.map 3 3) by kernel_rfl)) (lenM m_12)) (z3 (zc (And.intro (And.intro (rfl : Try.prog = Try.prog) (show Try.prog.underlying 27 = some (.map 3 4) by kernel_rfl)) (lenS m_10)) (z4 zt))))) ?_
  refine T_ret ?_
  obtain rfl := some_inv h
  exact ret_here [(db (((m_12.length : Nat) : Int) == ((m_10.length : Nat) : Int)))] (by kernel_rfl) (.inl rfl)
  obtain ⟨hnd, h⟩ := ck_inv h
  refine T_pinMap (Q' := Try.prog) (k := 3) (e := 4) (m := mapS m_10) 38 (by kernel_rfl) (fun bm om hom => ?_)
  refine T_turn [] [6, 18] [] (mk 208 [(6, (ow 38)), (18, (ow 160))] [(38, (.obj (pin bm (.map (some bm)) om))), (160, (.map Try.prog 3 3 (mapD m_12)))]) (by kernel_rfl) ?_
  refine T_seq (T_parts ?_)
  refine TL_part 1 [] (mk 208 [(6, (ow 38)), (18, (ow 160)), (193, (ow 38))] [(38, (.obj (pin bm (.map (some bm)) om))), (160, (.map Try.prog 3 3 (mapD m_12)))]) _ (by kernel_rfl) (z2 zt) rfl ?_
  refine TL_rangeS 27 3 4 194 38 194 _ bm om m_10 rfl rfl rfl (by kernel_rfl) (by kernel_rfl) (by kernel_rfl) (by kernel_rfl) hom (by decide) ?_
  refine TL_turn [] [6, 18, 194] [] (mk 208 [(6, (ow 38)), (18, (ow 160)), (194, (rf 194 0))] [(194, (.obj (ItOK Try.prog 3 4 bm om m_10))), (38, (.obj (pin bm (.map (some bm)) om))), (160, (.map Try.prog 3 3 (mapD m_12)))]) (by kernel_rfl) ?_
  refine TL_nilQ ?_
  refine T_block ?_
  refine T_arr [] [6, 18, 194] [] [38, 160, 194] _ (by kernel_rfl) (T_loopI (α := List Int × Unit) (fun p => (mk 208 [(6, (ow 38)), (18, (ow 160)), (194, (rf 194 0))] [(38, (.obj (pin bm (.map (some bm)) om))), (160, (.map Try.prog 3 3 (mapD m_12))), (194, (.obj (ItOK Try.prog 3 4 bm om p.1)))])) (RngI (fun (c : Int) (_ : Unit) => ckI (c) <| if ((mget m_12 c) != 1) = true then (up (some false)) else some (.inl ())) (fun (_ : Unit) => g_law42_PrizesConserve_j5 m_12 m_10) r) (fun p => p.1.length) (m_10, ()) ⟨hnd, allO_inv h⟩ (fun p hp => ?_))
  obtain ⟨R, ⟨⟩⟩ := p
  refine T_seq (T_parts ?_)
  refine TL_nextS 3 4 38 194 _ bm om R rfl rfl (by kernel_rfl) (by kernel_rfl) (by kernel_rfl) (by kernel_rfl) (fun hR => ?_) (fun c hc => ?_)
  have h := RngI.nil hp hR
  refine TL_turn [] [6, 18, 194, 195] [] (mk 208 [(6, (ow 38)), (18, (ow 160)), (194, (rf 194 0)), (195, (.tup [(false, [(.dat (B false))])]))] [(38, (.obj (pin bm (.map (some bm)) om))), (160, (.map Try.prog 3 3 (mapD m_12))), (194, (.obj (ItOK Try.prog 3 4 bm om R)))]) (by kernel_rfl) ?_
  refine TL_part 1 [] (mk 208 [(6, (ow 38)), (18, (ow 160)), (194, (rf 194 0)), (195, (.tup [(false, [(.dat (B false))])])), (196, (db false))] [(38, (.obj (pin bm (.map (some bm)) om))), (160, (.map Try.prog 3 3 (mapD m_12))), (194, (.obj (ItOK Try.prog 3 4 bm om R)))]) _ (by kernel_rfl) (z2 zt) rfl ?_
  refine TL_nilQ ?_
  refine T_seq ?_
  refine T_cond false (by kernel_rfl) (fun h => absurd h (by decide)) (fun _ => ?_)
  refine T_exit ?_
  exact Exists.intro () (And.intro h ((le_unpinMap 38 (by kernel_rfl) hom).trans (arr [] [6, 18] [194] [38, 160] (by kernel_rfl))))
  obtain ⟨⟨y1, h, hy1, hz2⟩, hlt⟩ := hp.more hc
  refine TL_turn [] [6, 18, 194, 195] [] (mk 208 [(6, (ow 38)), (18, (ow 160)), (194, (rf 194 0)), (195, (.tup [(false, [(.dat (B true))]), (false, [(.dat (I c))]), (false, [.junk])]))] [(38, (.obj (pin bm (.map (some bm)) om))), (160, (.map Try.prog 3 3 (mapD m_12))), (194, (.obj (CurOK Try.prog 3 4 bm om (R.filter fun y => !(y == c)) c)))]) (by kernel_rfl) ?_
  refine TL_part 1 [] (mk 208 [(6, (ow 38)), (18, (ow 160)), (194, (rf 194 0)), (195, (.tup [(false, [(.dat (B true))]), (false, [(.dat (I c))]), (false, [.junk])])), (196, (db true))] [(38, (.obj (pin bm (.map (some bm)) om))), (160, (.map Try.prog 3 3 (mapD m_12))), (194, (.obj (CurOK Try.prog 3 4 bm om (R.filter fun y => !(y == c)) c)))]) _ (by kernel_rfl) (z2 zt) rfl ?_
  refine TL_nilQ ?_
  refine T_seq ?_
  refine T_cond true (by kernel_rfl) (fun _ => ?_) (fun h => absurd h (by decide))
  refine T_skip ?_
  refine T_block ?_
  refine T_seq (T_parts ?_)
  refine TL_entryS 3 4 38 194 _ bm om (R.filter fun y => !(y == c)) c rfl rfl (by kernel_rfl) (by kernel_rfl) (by kernel_rfl) ?_
  refine TL_turn [] [6, 18, 194, 197] [] (mk 208 [(6, (ow 38)), (18, (ow 160)), (194, (rf 194 0)), (197, (.tup [(false, [(.dat (I c))]), (false, [.junk])]))] [(38, (.obj (pin bm (.map (some bm)) om))), (160, (.map Try.prog 3 3 (mapD m_12))), (194, (.obj (ItOK Try.prog 3 4 bm om (R.filter fun y => !(y == c)))))]) (by kernel_rfl) ?_
  refine TL_part 2 [] (mk 208 [(6, (ow 38)), (18, (ow 160)), (23, (di c)), (194, (rf 194 0)), (197, (.tup [(false, [(.dat (I c))]), (false, [.junk])])), (198, (di c))] [(38, (.obj (pin bm (.map (some bm)) om))), (160, (.map Try.prog 3 3 (mapD m_12))), (194, (.obj (ItOK Try.prog 3 4 bm om (R.filter fun y => !(y == c)))))]) _ (by kernel_rfl) (z4 zt) rfl ?_
  refine TL_nilQ ?_
  obtain ⟨c13, h⟩ := ckI_in h
  refine T_reg [zn, zn, (zd (I (mget m_12 c)))] [6, 18, 194, 202] [] (mk 208 [(6, (ow 38)), (18, (ow 160)), (194, (rf 194 0)), (202, (db ((mget m_12 c) != 1)))] [(38, (.obj (pin bm (.map (some bm)) om))), (160, (.map Try.prog 3 3 (mapD m_12))), (194, (.obj (ItOK Try.prog 3 4 bm om (R.filter fun y => !(y == c)))))]) _ (by kernel_rfl) (z5 (zc (show (Try.prog = Try.prog ∧ Try.prog.underlying 39 = some (.map 3 3) ∧ Try.prog.underlying 3 = some (.int .i64) ∧ (Lit.int .i64 c).wf = true ∧ lookSide Try.prog 3 (mapD m_12) (.int .i64 c) (I (mget m_12 c))) from ⟨rfl, by kernel_rfl, by kernel_rfl, wf_i64 c13.1 c13.2, by kernel_rfl, by kernel_rfl, mapD_get _ _⟩) (z2 zt))) ?_
  refine T_cond ((mget m_12 c) != 1) (by kernel_rfl) (fun b14 => ?_) (fun b14 => ?_)
  replace h := ite_t b14 h
  refine T_reg [] [4] [38, 160, 194] (mk 208 [(4, (db false))] []) _ (by kernel_rfl) (z2 zt) ?_
  refine T_ret ?_
  replace h := up_inv h hy1
  obtain rfl := some_inv h
  exact ret_here [(db false)] (by kernel_rfl) (.inl rfl)
  replace h := ite_f b14 h
  refine T_skip ?_
  exact ⟨((R.filter fun y => !(y == c)), ()), hz2 () (some_inv h).symm, hlt, arr [] [6, 18, 194] [] [38, 160, 194] (by kernel_rfl)⟩
  refine T_reg [] [0, 1, 6, 18, 19] [] (mk 208 [(0, (dt (.sl 3 (tables_1.map encTab)))), (1, (dt (.sl 6 (schemes_2.map encSch)))), (6, (ow 38)), (18, (ow 160)), (19, (di 0))] [(160, (.map Try.prog 3 3 (mapD ([] : List (Int × Int))))), (38, (.map Try.prog 3 4 (mapS m_10)))]) _ (by kernel_rfl) (z2 zt) ?_
  refine T_block ?_
  refine T_arr [] [0, 1, 6, 18, 19] [] [38, 160] _ (by kernel_rfl) (T_loopO (σ := Nat × (List (Int × Int))) (fun ((i_15, m_16) : Nat × (List (Int × Int))) => (mk 208 [(0, (dt (.sl 3 (tables_1.map encTab)))), (1, (dt (.sl 6 (schemes_2.map encSch)))), (6, (ow 38)), (18, (ow 160)), (19, (di ((i_15 : Nat) : Int)))] [(38, (.map Try.prog 3 4 (mapS m_10))), (160, (.map Try.prog 3 3 (mapD m_16)))])) (g_law42_PrizesConserve_l6 tables_1 schemes_2 m_10) (0, ([] : List (Int × Int))) h (fun v y1 hy1 h => ?_))
  obtain ⟨i_15, m_16⟩ := v
  refine T_seq ?_
  refine T_reg [zn, zn, (zd (I ((tables_1.length : Nat) : Int)))] [0, 1, 6, 18, 19, 164] [] (mk 208 [(0, (dt (.sl 3 (tables_1.map encTab)))), (1, (dt (.sl 6 (schemes_2.map encSch)))), (6, (ow 38)), (18, (ow 160)), (19, (di ((i_15 : Nat) : Int))), (164, (db (decide (((i_15 : Nat) : Int) < ((tables_1.length : Nat) : Int)))))] [(38, (.map Try.prog 3 4 (mapS m_10))), (160, (.map Try.prog 3 3 (mapD m_16)))]) _ (by kernel_rfl) (z5 (zc (len_s encTab tables_1) (z2 zt))) ?_
  refine T_cond (decide (((i_15 : Nat) : Int) < ((tables_1.length : Nat) : Int))) (by kernel_rfl) (fun b19 => ?_) (fun b19 => ?_)
  replace h := ite_t b19 h
  refine T_skip ?_
  refine T_seqJ (α := List (Int × Int)) (fun (m_20 : List (Int × Int)) => (mk 208 [(0, (dt (.sl 3 (tables_1.map encTab)))), (1, (dt (.sl 6 (schemes_2.map encSch)))), (6, (ow 38)), (18, (ow 160)), (19, (di ((i_15 : Nat) : Int)))] [(38, (.map Try.prog 3 4 (mapS m_10))), (160, (.map Try.prog 3 3 (mapD m_20)))])) (fun (m_20 : List (Int × Int)) => g_law42_PrizesConserve_j7 i_15 tables_1 schemes_2 m_10 m_20 = some y1) (fun m_20 h => ?_) ?_
  obtain ⟨c21, h⟩ := ckI_inv h
  exact T_regJ [zn, (zd (I ((i_15 + 1 : Nat) : Int)))] [] [0, 1, 6, 18, 19] [] [38, 160] _ _ (by kernel_rfl) (z3 (zc c21 (z2 zt))) (fun s hs => Exists.intro (i_15 + 1, m_20) (And.intro h hs))
  refine T_block ?_
  obtain ⟨x_22, e23, e24, e25, h⟩ := gn_inv encTab h
  obtain ⟨r_26, e27, h⟩ := bd_inv h
  refine T_reg (hl 8 [(4, (zd (encTab x_22))), (7, (zd (.tup [(.sl 1 (r_26.1.map elI)), (I r_26.2)])))]) [0, 1, 6, 18, 19, 20, 21] [] (mk 208 [(0, (dt (.sl 3 (tables_1.map encTab)))), (1, (dt (.sl 6 (schemes_2.map encSch)))), (6, (ow 38)), (18, (ow 160)), (19, (di ((i_15 : Nat) : Int))), (20, (dt (.sl 1 (r_26.1.map elI)))), (21, (di r_26.2))] [(38, (.map Try.prog 3 4 (mapS m_10))), (160, (.map Try.prog 3 3 (mapD m_16)))]) _ (by kernel_rfl) (z8 (z1 (zc e23 (z5 (zc (g_prizes_Next_ret e27) (z8 (z2 zt))))))) ?_
  refine T_seq ?_
  refine T_reg [] [0, 1, 6, 18, 19, 20, 179] [] (mk 208 [(0, (dt (.sl 3 (tables_1.map encTab)))), (1, (dt (.sl 6 (schemes_2.map encSch)))), (6, (ow 38)), (18, (ow 160)), (19, (di ((i_15 : Nat) : Int))), (20, (dt (.sl 1 (r_26.1.map elI)))), (179, (db (r_26.2 != 0)))] [(38, (.map Try.prog 3 4 (mapS m_10))), (160, (.map Try.prog 3 3 (mapD m_16)))]) _ (by kernel_rfl) (z4 zt) ?_
  refine T_cond (r_26.2 != 0) (by kernel_rfl) (fun b28 => ?_) (fun b28 => ?_)
  replace h := ite_t b28 h
  refine T_reg [] [4] [38, 160] (mk 208 [(4, (db true))] []) _ (by kernel_rfl) (z2 zt) ?_
  refine T_ret ?_
  replace h := up_inv h hy1
  obtain rfl := some_inv h
  exact ret_here [(db true)] (by kernel_rfl) (.inl rfl)
  replace h := ite_f b28 h
  refine T_skip ?_
  refine T_reg [] [0, 1, 6, 18, 19, 20, 22] [] (mk 208 [(0, (dt (.sl 3 (tables_1.map encTab)))), (1, (dt (.sl 6 (schemes_2.map encSch)))), (6, (ow 38)), (18, (ow 160)), (19, (di ((i_15 : Nat) : Int))), (20, (dt (.sl 1 (r_26.1.map elI)))), (22, (di 0))] [(38, (.map Try.prog 3 4 (mapS m_10))), (160, (.map Try.prog 3 3 (mapD m_16)))]) _ (by kernel_rfl) (z2 zt) ?_
  refine T_block ?_
  refine T_arr [] [0, 1, 6, 18, 19, 20, 22] [] [38, 160] _ (by kernel_rfl) (T_loopO (σ := Nat × (List (Int × Int))) (fun ((k_29, m_30) : Nat × (List (Int × Int))) => (mk 208 [(0, (dt (.sl 3 (tables_1.map encTab)))), (1, (dt (.sl 6 (schemes_2.map encSch)))), (6, (ow 38)), (18, (ow 160)), (19, (di ((i_15 : Nat) : Int))), (20, (dt (.sl 1 (r_26.1.map elI)))), (22, (di ((k_29 : Nat) : Int)))] [(38, (.map Try.prog 3 4 (mapS m_10))), (160, (.map Try.prog 3 3 (mapD m_30)))])) (g_law42_PrizesConserve_l8 r_26 i_15 tables_1 schemes_2 m_10) (0, m_16) h (fun v y2 hy2 h => ?_))
  obtain ⟨k_29, m_30⟩ := v
  refine T_seq ?_
  refine T_reg [zn, zn, (zd (I ((r_26.1.length : Nat) : Int)))] [0, 1, 6, 18, 19, 20, 22, 183] [] (mk 208 [(0, (dt (.sl 3 (tables_1.map encTab)))), (1, (dt (.sl 6 (schemes_2.map encSch)))), (6, (ow 38)), (18, (ow 160)), (19, (di ((i_15 : Nat) : Int))), (20, (dt (.sl 1 (r_26.1.map elI)))), (22, (di ((k_29 : Nat) : Int))), (183, (db (decide (((k_29 : Nat) : Int) < ((r_26.1.length : Nat) : Int)))))] [(38, (.map Try.prog 3 4 (mapS m_10))), (160, (.map Try.prog 3 3 (mapD m_30)))]) _ (by kernel_rfl) (z5 (zc (len_s elI r_26.1) (z2 zt))) ?_
  refine T_cond (decide (((k_29 : Nat) : Int) < ((r_26.1.length : Nat) : Int))) (by kernel_rfl) (fun b33 => ?_) (fun b33 => ?_)
  replace h := ite_t b33 h
  refine T_skip ?_
  refine T_seq ?_
  refine T_block ?_
  obtain ⟨x_34, e35, e36, e37, h⟩ := gn_inv elI h
  obtain ⟨c38, h⟩ := ckI_in h
  obtain ⟨c39, h⟩ := ckI_inv h
  refine T_parts ?_
  refine TL_part 7 [zn, zn, zn, (zd (I x_34)), zn, (zd (I (mget m_30 x_34))), (zd (I ((mget m_30 x_34) + 1)))] (mk 208 [(0, (dt (.sl 3 (tables_1.map encTab)))), (1, (dt (.sl 6 (schemes_2.map encSch)))), (6, (ow 38)), (18, (ow 160)), (19, (di ((i_15 : Nat) : Int))), (20, (dt (.sl 1 (r_26.1.map elI)))), (22, (di ((k_29 : Nat) : Int))), (183, (db (decide (((k_29 : Nat) : Int) < ((r_26.1.length : Nat) : Int))))), (186, (ow 160)), (187, (dt (.sl 1 (r_26.1.map elI)))), (188, (di ((k_29 : Nat) : Int))), (189, (dt (.ptr [(I x_34)]))), (190, (di x_34)), (191, (di (mget m_30 x_34))), (192, (di ((mget m_30 x_34) + 1)))] [(38, (.map Try.prog 3 4 (mapS m_10))), (160, (.map Try.prog 3 3 (mapD m_30)))]) _ (by kernel_rfl) (z7 (zc e35 (z3 (zc (show (Try.prog = Try.prog ∧ Try.prog.underlying 39 = some (.map 3 3) ∧ Try.prog.underlying 3 = some (.int .i64) ∧ (Lit.int .i64 x_34).wf = true ∧ lookSide Try.prog 3 (mapD m_30) (.int .i64 x_34) (I (mget m_30 x_34))) from ⟨rfl, by kernel_rfl, by kernel_rfl, wf_i64 c38.1 c38.2, by kernel_rfl, by kernel_rfl, mapD_get _ _⟩) (z1 (zc c39 zt)))))) rfl ?_
  obtain ⟨c40, h⟩ := ckI_in h
  obtain ⟨c41, h⟩ := ck_inv h
  refine TL_mapUpdate 39 3 3 160 _ _ _ m_30 x_34 ((mget m_30 x_34) + 1) rfl rfl (by kernel_rfl) (by kernel_rfl) (by kernel_rfl) (by kernel_rfl) (by kernel_rfl) (by kernel_rfl) (by kernel_rfl) c38 c40 c41 ?_
  refine TL_turn [] [0, 1, 6, 18, 19, 20, 22] [] (mk 208 [(0, (dt (.sl 3 (tables_1.map encTab)))), (1, (dt (.sl 6 (schemes_2.map encSch)))), (6, (ow 38)), (18, (ow 160)), (19, (di ((i_15 : Nat) : Int))), (20, (dt (.sl 1 (r_26.1.map elI)))), (22, (di ((k_29 : Nat) : Int)))] [(38, (.map Try.prog 3 4 (mapS m_10))), (160, (.map Try.prog 3 3 (mapD (mput m_30 x_34 ((mget m_30 x_34) + 1)))))]) (by kernel_rfl) ?_
  refine TL_nilQ ?_
  obtain ⟨c42, h⟩ := ckI_inv h
  exact T_regJ [zn, (zd (I ((k_29 + 1 : Nat) : Int)))] [] [0, 1, 6, 18, 19, 20, 22] [] [38, 160] _ _ (by kernel_rfl) (z3 (zc c42 (z2 zt))) (fun s hs => Exists.intro (k_29 + 1, (mput m_30 x_34 ((mget m_30 x_34) + 1))) (And.intro h hs))
  replace h := ite_f b33 h
  refine T_exit ?_
  replace h := up_inv h hy2
  exact Exists.intro m_30 (And.intro h (arr [] [0, 1, 6, 18, 19] [] [38, 160] (by kernel_rfl)))
  replace h := ite_f b19 h
  refine T_exit ?_
  replace h := up_inv h hy1
  exact Exists.intro m_16 (And.intro h (arr [] [6, 18] [] [38, 160] (by kernel_rfl)))
  refine T_reg [] [0, 1, 5, 6, 12] [] (mk 208 [(0, (dt (.sl 3 (tables_1.map encTab)))), (1, (dt (.sl 6 (schemes_2.map encSch)))), (5, (ow 37)), (6, (ow 38)), (12, (di 0))] [(37, (.mapl Try.prog 3 (mapE encSch m_9))), (38, (.map Try.prog 3 4 (mapS m_10)))]) _ (by kernel_rfl) (z2 zt) ?_
  refine T_block ?_
  refine T_arr [] [0, 1, 5, 6, 12] [] [37, 38] _ (by kernel_rfl) (T_loopO (σ := Nat) (fun (i_43 : Nat) => (mk 208 [(0, (dt (.sl 3 (tables_1.map encTab)))), (1, (dt (.sl 6 (schemes_2.map encSch)))), (5, (ow 37)), (6, (ow 38)), (12, (di ((i_43 : Nat) : Int)))] [(37, (.mapl Try.prog 3 (mapE encSch m_9))), (38, (.map Try.prog 3 4 (mapS m_10)))])) (g_law42_PrizesConserve_l9 schemes_2 m_9 tables_1 m_10) 0 h (fun i_43 y1 hy1 h => ?_))
  refine T_seq ?_
  refine T_reg [zn, zn, (zd (I ((schemes_2.length : Nat) : Int)))] [0, 1, 5, 6, 12, 109] [] (mk 208 [(0, (dt (.sl 3 (tables_1.map encTab)))), (1, (dt (.sl 6 (schemes_2.map encSch)))), (5, (ow 37)), (6, (ow 38)), (12, (di ((i_43 : Nat) : Int))), (109, (db (decide (((i_43 : Nat) : Int) < ((schemes_2.length : Nat) : Int)))))] [(37, (.mapl Try.prog 3 (mapE encSch m_9))), (38, (.map Try.prog 3 4 (mapS m_10)))]) _ (by kernel_rfl) (z5 (zc (len_s encSch schemes_2) (z2 zt))) ?_
  refine T_cond (decide (((i_43 : Nat) : Int) < ((schemes_2.length : Nat) : Int))) (by kernel_rfl) (fun b45 => ?_) (fun b45 => ?_)
  replace h := ite_t b45 h
  refine T_skip ?_
  refine T_seq ?_
  refine T_block ?_
  obtain ⟨x_46, e47, e48, e49, h⟩ := gn_inv encSch h
  refine T_reg [zn, zn, (zd (encSch x_46))] [0, 1, 5, 6, 12, 13] [] (mk 208 [(0, (dt (.sl 3 (tables_1.map encTab)))), (1, (dt (.sl 6 (schemes_2.map encSch)))), (5, (ow 37)), (6, (ow 38)), (12, (di ((i_43 : Nat) : Int))), (13, (rf 13 0))] [(13, (.var (qSch x_46))), (37, (.mapl Try.prog 3 (mapE encSch m_9))), (38, (.map Try.prog 3 4 (mapS m_10)))]) _ (by kernel_rfl) (z5 (zc e47 (z6 zt))) ?_
  refine T_seq (T_parts ?_)
  refine TL_part 3 [] (mk 208 [(0, (dt (.sl 3 (tables_1.map encTab)))), (1, (dt (.sl 6 (schemes_2.map encSch)))), (5, (ow 37)), (6, (ow 38)), (12, (di ((i_43 : Nat) : Int))), (13, (rf 13 0)), (117, (ow 37)), (118, (rf 13 4)), (119, (di x_46.ab))] [(13, (.var (qSch x_46))), (37, (.mapl Try.prog 3 (mapE encSch m_9))), (38, (.map Try.prog 3 4 (mapS m_10)))]) _ (by kernel_rfl) (z6 zt) rfl ?_
  obtain ⟨c50, h⟩ := ckI_in h
  obtain ⟨v_51, e52, h⟩ := letO_inv h
  obtain ⟨ok_53, e54, h⟩ := letO_inv h
  refine TL_lookE 26 3 30 37 _ _ encSch (⟨0, ([] : List Prize), 0, 0, 0, 0⟩ : Sch) m_9 x_46.ab rfl rfl (by kernel_rfl) (by kernel_rfl) (zc := [(.dat (I 0)), (.dat nilS), (.dat (I 0)), (.dat (I 0)), (.dat (I 0)), (.dat (I 0))]) (by kernel_rfl) ⟨.inl rfl, ⟨.inr ⟨3, rfl⟩, ⟨.inl rfl, ⟨.inl rfl, ⟨.inl rfl, ⟨.inl rfl, trivial⟩⟩⟩⟩⟩⟩ (by kernel_rfl) (by kernel_rfl) (by kernel_rfl) c50 ?_
  rw [← e52, ← e54]
  refine TL_turn [] [0, 1, 5, 6, 12, 13, 120] [] (mk 208 [(0, (dt (.sl 3 (tables_1.map encTab)))), (1, (dt (.sl 6 (schemes_2.map encSch)))), (5, (ow 37)), (6, (ow 38)), (12, (di ((i_43 : Nat) : Int))), (13, (rf 13 0)), (120, (.tup [(true, (qSch v_51)), (false, [(.dat (B (ok_53)))])]))] [(13, (.var (qSch x_46))), (37, (.mapl Try.prog 3 (mapE encSch m_9))), (38, (.map Try.prog 3 4 (mapS m_10)))]) (by kernel_rfl) ?_
  refine TL_part 6 [] (mk 208 [(0, (dt (.sl 3 (tables_1.map encTab)))), (1, (dt (.sl 6 (schemes_2.map encSch)))), (5, (ow 37)), (6, (ow 38)), (12, (di ((i_43 : Nat) : Int))), (13, (rf 13 0)), (14, (rf 14 0)), (15, (db (ok_53))), (116, (.tup [(true, (qSch v_51)), (false, [(.dat (B (ok_53)))])])), (120, (.tup [(true, (qSch v_51)), (false, [(.dat (B (ok_53)))])])), (121, (.agg (qSch v_51))), (122, (db (ok_53)))] [(14, (.var (qSch v_51))), (13, (.var (qSch x_46))), (37, (.mapl Try.prog 3 (mapE encSch m_9))), (38, (.map Try.prog 3 4 (mapS m_10)))]) _ (by kernel_rfl) (z8 (z4 zt)) rfl ?_
  refine TL_nilQ ?_
  refine T_turn [] [0, 1, 5, 6, 12, 13, 14, 15] [] (mk 208 [(0, (dt (.sl 3 (tables_1.map encTab)))), (1, (dt (.sl 6 (schemes_2.map encSch)))), (5, (ow 37)), (6, (ow 38)), (12, (di ((i_43 : Nat) : Int))), (13, (rf 13 0)), (14, (rf 14 0)), (15, (db (ok_53)))] [(14, (.var (qSch v_51))), (13, (.var (qSch x_46))), (37, (.mapl Try.prog 3 (mapE encSch m_9))), (38, (.map Try.prog 3 4 (mapS m_10)))]) (by kernel_rfl) ?_
  refine T_seq (T_parts ?_)
  refine TL_part 3 [] (mk 208 [(0, (dt (.sl 3 (tables_1.map encTab)))), (1, (dt (.sl 6 (schemes_2.map encSch)))), (5, (ow 37)), (6, (ow 38)), (12, (di ((i_43 : Nat) : Int))), (13, (rf 13 0)), (14, (rf 14 0)), (15, (db (ok_53))), (124, (ow 37)), (125, (rf 13 5)), (126, (di x_46.be))] [(14, (.var (qSch v_51))), (13, (.var (qSch x_46))), (37, (.mapl Try.prog 3 (mapE encSch m_9))), (38, (.map Try.prog 3 4 (mapS m_10)))]) _ (by kernel_rfl) (z6 zt) rfl ?_
  obtain ⟨c55, h⟩ := ckI_in h
  obtain ⟨v_56, e57, h⟩ := letO_inv h
  obtain ⟨ok_58, e59, h⟩ := letO_inv h
  refine TL_lookE 26 3 30 37 _ _ encSch (⟨0, ([] : List Prize), 0, 0, 0, 0⟩ : Sch) m_9 x_46.be rfl rfl (by kernel_rfl) (by kernel_rfl) (zc := [(.dat (I 0)), (.dat nilS), (.dat (I 0)), (.dat (I 0)), (.dat (I 0)), (.dat (I 0))]) (by kernel_rfl) ⟨.inl rfl, ⟨.inr ⟨3, rfl⟩, ⟨.inl rfl, ⟨.inl rfl, ⟨.inl rfl, ⟨.inl rfl, trivial⟩⟩⟩⟩⟩⟩ (by kernel_rfl) (by kernel_rfl) (by kernel_rfl) c55 ?_
  rw [← e57, ← e59]
  refine TL_turn [] [0, 1, 5, 6, 12, 13, 14, 15, 127] [] (mk 208 [(0, (dt (.sl 3 (tables_1.map encTab)))), (1, (dt (.sl 6 (schemes_2.map encSch)))), (5, (ow 37)), (6, (ow 38)), (12, (di ((i_43 : Nat) : Int))), (13, (rf 13 0)), (14, (rf 14 0)), (15, (db (ok_53))), (127, (.tup [(true, (qSch v_56)), (false, [(.dat (B (ok_58)))])]))] [(14, (.var (qSch v_51))), (13, (.var (qSch x_46))), (37, (.mapl Try.prog 3 (mapE encSch m_9))), (38, (.map Try.prog 3 4 (mapS m_10)))]) (by kernel_rfl) ?_
  refine TL_part 6 [] (mk 208 [(0, (dt (.sl 3 (tables_1.map encTab)))), (1, (dt (.sl 6 (schemes_2.map encSch)))), (5, (ow 37)), (6, (ow 38)), (12, (di ((i_43 : Nat) : Int))), (13, (rf 13 0)), (14, (rf 14 0)), (15, (db (ok_53))), (16, (rf 16 0)), (17, (db (ok_58))), (123, (.tup [(true, (qSch v_56)), (false, [(.dat (B (ok_58)))])])), (127, (.tup [(true, (qSch v_56)), (false, [(.dat (B (ok_58)))])])), (128, (.agg (qSch v_56))), (129, (db (ok_58)))] [(16, (.var (qSch v_56))), (14, (.var (qSch v_51))), (13, (.var (qSch x_46))), (37, (.mapl Try.prog 3 (mapE encSch m_9))), (38, (.map Try.prog 3 4 (mapS m_10)))]) _ (by kernel_rfl) (z8 (z4 zt)) rfl ?_
  refine TL_nilQ ?_
  refine T_turn [] [0, 1, 5, 6, 12, 13, 14, 15, 16, 17] [] (mk 208 [(0, (dt (.sl 3 (tables_1.map encTab)))), (1, (dt (.sl 6 (schemes_2.map encSch)))), (5, (ow 37)), (6, (ow 38)), (12, (di ((i_43 : Nat) : Int))), (13, (rf 13 0)), (14, (rf 14 0)), (15, (db (ok_53))), (16, (rf 16 0)), (17, (db (ok_58)))] [(16, (.var (qSch v_56))), (14, (.var (qSch v_51))), (13, (.var (qSch x_46))), (37, (.mapl Try.prog 3 (mapE encSch m_9))), (38, (.map Try.prog 3 4 (mapS m_10)))]) (by kernel_rfl) ?_
  refine T_seqJ (α := Bool) (fun (v_60 : Bool) => (mk 208 [(0, (dt (.sl 3 (tables_1.map encTab)))), (1, (dt (.sl 6 (schemes_2.map encSch)))), (5, (ow 37)), (6, (ow 38)), (12, (di ((i_43 : Nat) : Int))), (159, (db (v_60)))] [(37, (.mapl Try.prog 3 (mapE encSch m_9))), (38, (.map Try.prog 3 4 (mapS m_10)))])) (fun (v_60 : Bool) => g_law42_PrizesConserve_j10 i_43 tables_1 schemes_2 m_9 m_10 v_60 = some y1) (fun v_60 h => ?_) ?_
  refine T_cond (v_60) (by kernel_rfl) (fun b61 => ?_) (fun b61 => ?_)
  replace h := ite_t b61 h
  refine T_reg [] [4] [37, 38] (mk 208 [(4, (db true))] []) _ (by kernel_rfl) (z2 zt) ?_
  refine T_ret ?_
  replace h := up_inv h hy1
  obtain rfl := some_inv h
  exact ret_here [(db true)] (by kernel_rfl) (.inl rfl)
  replace h := ite_f b61 h
  refine T_skip ?_
  obtain ⟨c62, h⟩ := ckI_inv h
  exact T_regJ [zn, (zd (I ((i_43 + 1 : Nat) : Int)))] [] [0, 1, 5, 6, 12] [] [37, 38] _ _ (by kernel_rfl) (z3 (zc c62 (z2 zt))) (fun s hs => Exists.intro (i_43 + 1) (And.intro h hs))
  rcases Bool.eq_false_or_eq_true (x_46.ab != (-1)) with b63 | b63
  replace h := ite_t b63 h
  rcases Bool.eq_false_or_eq_true (!(ok_53)) with b64 | b64
  replace h := ite_t b64 h
  exact T_regJ [zn, zn, zn, zn, zn, zn, zn, zg, zg, zg, zg, zg, (zd (B true)), (zd (B true)), zn, zg, zg, zg, zg, zn, zn, zn, zn, zn, zn, zn, zn, zn, zg, (zd (B true))] [] [0, 1, 5, 6, 12, 159] [16, 14, 13] [37, 38] _ _ (by kernel_rfl) (z8 (zc (gd_tt b63) (z1 (zc (gd_tt b63) (z1 (zc (gd_tt b63) (z1 (zc (gd_tf b64) (zc (gd_tf b64) (zc (gd_tf b64) (zc (gd_tf b64) (zc (gd_tf b64) (zc (gd_tt b63) (zc b64 (z1 (zc b63 (z2 (zc (gd_tf (rfl : true = true)) (zc (gd_tf (rfl : true = true)) (zc (gd_tf (rfl : true = true)) (zc (gd_tf (rfl : true = true)) (z8 (z1 (zc (gd_tf (rfl : true = true)) (z1 (zc (rfl : true = true) zt)))))))))))))))))))))))))) (fun s hs => Exists.intro true (And.intro h hs))
  replace h := ite_f b64 h
  rcases Bool.eq_false_or_eq_true (v_51.be != x_46.c) with b65 | b65
  replace h := ite_t b65 h
  exact T_regJ (hl 30 [(12, (zd (B false))), (13, (zd (B true))), (15, zg), (16, zg), (17, zg), (18, zg), (28, zg), (29, (zd (B true)))]) [] [0, 1, 5, 6, 12, 159] [16, 14, 13] [37, 38] _ _ (by kernel_rfl) (z8 (zc (gd_tt b63) (z1 (zc (gd_tt b63) (z1 (zc (gd_tt b63) (z1 (zc (gd_ff b64) (z1 (zc (gd_ff b64) (z1 (zc (gd_ff b64) (z1 (zc (gd_ff b64) (z1 (zc (gd_ff b64) (z1 (zc (gd_tt b63) (zc b64 (z1 (zc b63 (z2 (zc (gd_tf b65) (zc (gd_tf b65) (zc (gd_tf b65) (zc (gd_tf b65) (z8 (z1 (zc (gd_tf b65) (z1 (zc b65 zt))))))))))))))))))))))))))))))) (fun s hs => Exists.intro true (And.intro h hs))
  replace h := ite_f b65 h
  rcases Bool.eq_false_or_eq_true (x_46.be != (-1)) with b66 | b66
  replace h := ite_t b66 h
  rcases Bool.eq_false_or_eq_true (!(ok_58)) with b67 | b67
  replace h := ite_t b67 h
  exact T_regJ (hl 30 [(12, (zd (B false))), (13, (zd (B true))), (22, zg), (23, zg), (24, zg), (25, zg), (26, zg), (27, (zd (B true))), (28, (zd (B true))), (29, (zd (B false)))]) [] [0, 1, 5, 6, 12, 159] [16, 14, 13] [37, 38] _ _ (by kernel_rfl) (z8 (zc (gd_tt b63) (z1 (zc (gd_tt b63) (z1 (zc (gd_tt b63) (z1 (zc (gd_ff b64) (z1 (zc (gd_ff b64) (z1 (zc (gd_ff b64) (z1 (zc (gd_ff b64) (z1 (zc (gd_ff b64) (z1 (zc (gd_tt b63) (zc b64 (z1 (zc b63 (z2 (zc (gd_ff b65) (z1 (zc (gd_ff b65) (z1 (zc (gd_ff b65) (z1 (zc (gd_ff b65) (z1 (zc (gd_tt b66) (z1 (zc (gd_tt b66) (z1 (zc (gd_tt b66) (z1 (zc (gd_tf b67) (zc (gd_tf b67) (zc (gd_tf b67) (zc (gd_tf b67) (zc (gd_tf b67) (zc (gd_tt b66) (zc b67 (zc (gd_ff b65) (zc b66 (z1 (zc b65 zt))))))))))))))))))))))))))))))))))))))))))))))) (fun s hs => Exists.intro true (And.intro h hs))
  replace h := ite_f b67 h
  exact T_regJ (hl 30 [(12, (zd (B false))), (13, (zd (B true))), (27, (zd (B false))), (28, (zd (B true))), (29, (zd (B false)))]) [] [0, 1, 5, 6, 12, 159] [16, 14, 13] [37, 38] _ _ (by kernel_rfl) (z8 (zc (gd_tt b63) (z1 (zc (gd_tt b63) (z1 (zc (gd_tt b63) (z1 (zc (gd_ff b64) (z1 (zc (gd_ff b64) (z1 (zc (gd_ff b64) (z1 (zc (gd_ff b64) (z1 (zc (gd_ff b64) (z1 (zc (gd_tt b63) (zc b64 (z1 (zc b63 (z2 (zc (gd_ff b65) (z1 (zc (gd_ff b65) (z1 (zc (gd_ff b65) (z1 (zc (gd_ff b65) (z1 (zc (gd_tt b66) (z1 (zc (gd_tt b66) (z1 (zc (gd_tt b66) (z1 (zc (gd_ff b67) (z1 (zc (gd_ff b67) (z1 (zc (gd_ff b67) (z1 (zc (gd_ff b67) (z1 (zc (gd_ff b67) (z1 (zc (gd_tt b66) (zc b67 (zc (gd_ff b65) (zc b66 (z1 (zc b65 zt)))))))))))))))))))))))))))))))))))))))))))))))))))) (fun s hs => Exists.intro (v_56.ab != x_46.c) (And.intro h hs))
  replace h := ite_f b66 h
  exact T_regJ (hl 30 [(12, (zd (B false))), (13, (zd (B true))), (19, zg), (20, zg), (21, zg), (27, zg), (28, (zd (B false))), (29, (zd (B false)))]) [] [0, 1, 5, 6, 12, 159] [16, 14, 13] [37, 38] _ _ (by kernel_rfl) (z8 (zc (gd_tt b63) (z1 (zc (gd_tt b63) (z1 (zc (gd_tt b63) (z1 (zc (gd_ff b64) (z1 (zc (gd_ff b64) (z1 (zc (gd_ff b64) (z1 (zc (gd_ff b64) (z1 (zc (gd_ff b64) (z1 (zc (gd_tt b63) (zc b64 (z1 (zc b63 (z2 (zc (gd_ff b65) (z1 (zc (gd_ff b65) (z1 (zc (gd_ff b65) (z1 (zc (gd_ff b65) (z1 (zc (gd_ft b66) (zc (gd_ft b66) (zc (gd_ft b66) (z5 (zc (gd_ft b66) (zc (gd_ff b65) (zc b66 (z1 (zc b65 zt))))))))))))))))))))))))))))))))))))))) (fun s hs => Exists.intro false (And.intro h hs))
  replace h := ite_f b63 h
  rcases Bool.eq_false_or_eq_true (x_46.be != (-1)) with b68 | b68
  replace h := ite_t b68 h
  rcases Bool.eq_false_or_eq_true (!(ok_58)) with b69 | b69
  replace h := ite_t b69 h
  exact T_regJ [zn, zn, zn, zn, zg, zg, zg, zn, zn, zn, zn, zn, zg, (zd (B false)), zn, zn, zn, zn, zn, zn, zn, zn, zg, zg, zg, zg, zg, (zd (B true)), (zd (B true)), (zd (B false))] [] [0, 1, 5, 6, 12, 159] [16, 14, 13] [37, 38] _ _ (by kernel_rfl) (z8 (zc (gd_ft b63) (zc (gd_ft b63) (zc (gd_ft b63) (z5 (zc (gd_ft b63) (z1 (zc b63 (z2 (zc (gd_ff (rfl : false = false)) (z1 (zc (gd_ff (rfl : false = false)) (z1 (zc (gd_ff (rfl : false = false)) (z1 (zc (gd_ff (rfl : false = false)) (z1 (zc (gd_tt b68) (z1 (zc (gd_tt b68) (z1 (zc (gd_tt b68) (z1 (zc (gd_tf b69) (zc (gd_tf b69) (zc (gd_tf b69) (zc (gd_tf b69) (zc (gd_tf b69) (zc (gd_tt b68) (zc b69 (zc (gd_ff (rfl : false = false)) (zc b68 (z1 (zc (rfl : false = false) zt)))))))))))))))))))))))))))))))))) (fun s hs => Exists.intro true (And.intro h hs))
  replace h := ite_f b69 h
  exact T_regJ (hl 30 [(4, zg), (5, zg), (6, zg), (12, zg), (13, (zd (B false))), (27, (zd (B false))), (28, (zd (B true))), (29, (zd (B false)))]) [] [0, 1, 5, 6, 12, 159] [16, 14, 13] [37, 38] _ _ (by kernel_rfl) (z8 (zc (gd_ft b63) (zc (gd_ft b63) (zc (gd_ft b63) (z5 (zc (gd_ft b63) (z1 (zc b63 (z2 (zc (gd_ff (rfl : false = false)) (z1 (zc (gd_ff (rfl : false = false)) (z1 (zc (gd_ff (rfl : false = false)) (z1 (zc (gd_ff (rfl : false = false)) (z1 (zc (gd_tt b68) (z1 (zc (gd_tt b68) (z1 (zc (gd_tt b68) (z1 (zc (gd_ff b69) (z1 (zc (gd_ff b69) (z1 (zc (gd_ff b69) (z1 (zc (gd_ff b69) (z1 (zc (gd_ff b69) (z1 (zc (gd_tt b68) (zc b69 (zc (gd_ff (rfl : false = false)) (zc b68 (z1 (zc (rfl : false = false) zt))))))))))))))))))))))))))))))))))))))) (fun s hs => Exists.intro (v_56.ab != x_46.c) (And.intro h hs))
  replace h := ite_f b68 h
  exact T_regJ (hl 30 [(4, zg), (5, zg), (6, zg), (12, zg), (13, (zd (B false))), (19, zg), (20, zg), (21, zg), (27, zg), (28, (zd (B false))), (29, (zd (B false)))]) [] [0, 1, 5, 6, 12, 159] [16, 14, 13] [37, 38] _ _ (by kernel_rfl) (z8 (zc (gd_ft b63) (zc (gd_ft b63) (zc (gd_ft b63) (z5 (zc (gd_ft b63) (z1 (zc b63 (z2 (zc (gd_ff (rfl : false = false)) (z1 (zc (gd_ff (rfl : false = false)) (z1 (zc (gd_ff (rfl : false = false)) (z1 (zc (gd_ff (rfl : false = false)) (z1 (zc (gd_ft b68) (zc (gd_ft b68) (zc (gd_ft b68) (z5 (zc (gd_ft b68) (zc (gd_ff (rfl : false = false)) (zc b68 (z1 (zc (rfl : false = false) zt)))))))))))))))))))))))))) (fun s hs => Exists.intro false (And.intro h hs))
  replace h := ite_f b45 h
  refine T_exit ?_
  replace h := up_inv h hy1
  exact Exists.intro () (And.intro h (arr [] [0, 1, 6] [37] [38] (by kernel_rfl)))
  refine T_reg [] [0, 1, 5, 6, 7, 8] [] (mk 208 [(0, (dt (.sl 3 (tables_1.map encTab)))), (1, (dt (.sl 6 (schemes_2.map encSch)))), (5, (ow 37)), (6, (ow 38)), (7, (di 0)), (8, (di 0))] [(38, (.map Try.prog 3 4 (mapS ([] : List Int)))), (37, (.mapl Try.prog 3 (mapE encSch ([] : List (Int × Sch)))))]) _ (by kernel_rfl) (z2 zt) ?_
  refine T_block ?_
  refine T_arr [] [0, 1, 5, 6, 7, 8] [] [37, 38] _ (by kernel_rfl) (T_loopO (σ := Nat × Nat × (List (Int × Sch)) × (List Int)) (fun ((all_70, i_71, m_72, m_73) : Nat × Nat × (List (Int × Sch)) × (List Int)) => (mk 208 [(0, (dt (.sl 3 (tables_1.map encTab)))), (1, (dt (.sl 6 (schemes_2.map encSch)))), (5, (ow 37)), (6, (ow 38)), (7, (di ((all_70 : Nat) : Int))), (8, (di ((i_71 : Nat) : Int)))] [(37, (.mapl Try.prog 3 (mapE encSch m_72))), (38, (.map Try.prog 3 4 (mapS m_73)))])) (g_law42_PrizesConserve_l11 tables_1 schemes_2) (0, 0, ([] : List (Int × Sch)), ([] : List Int)) h (fun v y1 hy1 h => ?_))
  obtain ⟨all_70, i_71, m_72, m_73⟩ := v
  refine T_seq ?_
  refine T_reg [zn, zn, (zd (I ((tables_1.length : Nat) : Int)))] [0, 1, 5, 6, 7, 8, 42] [] (mk 208 [(0, (dt (.sl 3 (tables_1.map encTab)))), (1, (dt (.sl 6 (schemes_2.map encSch)))), (5, (ow 37)), (6, (ow 38)), (7, (di ((all_70 : Nat) : Int))), (8, (di ((i_71 : Nat) : Int))), (42, (db (decide (((i_71 : Nat) : Int) < ((tables_1.length : Nat) : Int)))))] [(37, (.mapl Try.prog 3 (mapE encSch m_72))), (38, (.map Try.prog 3 4 (mapS m_73)))]) _ (by kernel_rfl) (z5 (zc (len_s encTab tables_1) (z2 zt))) ?_
  refine T_cond (decide (((i_71 : Nat) : Int) < ((tables_1.length : Nat) : Int))) (by kernel_rfl) (fun b78 => ?_) (fun b78 => ?_)
  replace h := ite_t b78 h
  refine T_skip ?_
  refine T_seqJ (α := Nat × (List (Int × Sch)) × (List Int)) (fun ((all_79, m_80, m_81) : Nat × (List (Int × Sch)) × (List Int)) => (mk 208 [(0, (dt (.sl 3 (tables_1.map encTab)))), (1, (dt (.sl 6 (schemes_2.map encSch)))), (5, (ow 37)), (6, (ow 38)), (7, (di ((all_79 : Nat) : Int))), (8, (di ((i_71 : Nat) : Int)))] [(37, (.mapl Try.prog 3 (mapE encSch m_80))), (38, (.map Try.prog 3 4 (mapS m_81)))])) (fun ((all_79, m_80, m_81) : Nat × (List (Int × Sch)) × (List Int)) => g_law42_PrizesConserve_j12 i_71 tables_1 schemes_2 all_79 m_80 m_81 = some y1) (fun v h => ?_) ?_
  obtain ⟨all_79, m_80, m_81⟩ := v
  obtain ⟨c82, h⟩ := ckI_inv h
  exact T_regJ [zn, (zd (I ((i_71 + 1 : Nat) : Int)))] [] [0, 1, 5, 6, 7, 8] [] [37, 38] _ _ (by kernel_rfl) (z3 (zc c82 (z2 zt))) (fun s hs => Exists.intro (all_79, i_71 + 1, m_80, m_81) (And.intro h hs))
  refine T_block ?_
  refine T_seq ?_
  obtain ⟨x_83, e84, e85, e86, h⟩ := gn_inv encTab h
  refine T_seq (T_parts ?_)
  refine TL_part 6 [zn, zn, zn, (zd (encTab x_83))] (mk 208 [(0, (dt (.sl 3 (tables_1.map encTab)))), (1, (dt (.sl 6 (schemes_2.map encSch)))), (5, (ow 37)), (6, (ow 38)), (7, (di ((all_70 : Nat) : Int))), (8, (di ((i_71 : Nat) : Int))), (42, (db (decide (((i_71 : Nat) : Int) < ((tables_1.length : Nat) : Int))))), (46, (ow 37)), (47, (dt (.sl 3 (tables_1.map encTab)))), (48, (di ((i_71 : Nat) : Int))), (49, (dt (.ptr [(I x_83.s), (I x_83.c), (.sl 14 (x_83.l.map encPlace))]))), (50, (dt (.ptr [(I x_83.c), (.sl 14 (x_83.l.map encPlace))]))), (51, (di x_83.c))] [(37, (.mapl Try.prog 3 (mapE encSch m_72))), (38, (.map Try.prog 3 4 (mapS m_73)))]) _ (by kernel_rfl) (z7 (zc e84 (z4 zt))) rfl ?_
  obtain ⟨c87, h⟩ := ckI_in h
  obtain ⟨v_88, e89, h⟩ := letO_inv h
  obtain ⟨ok_90, e91, h⟩ := letO_inv h
  refine TL_lookE 26 3 30 37 _ _ encSch (⟨0, ([] : List Prize), 0, 0, 0, 0⟩ : Sch) m_72 x_83.c rfl rfl (by kernel_rfl) (by kernel_rfl) (zc := [(.dat (I 0)), (.dat nilS), (.dat (I 0)), (.dat (I 0)), (.dat (I 0)), (.dat (I 0))]) (by kernel_rfl) ⟨.inl rfl, ⟨.inr ⟨3, rfl⟩, ⟨.inl rfl, ⟨.inl rfl, ⟨.inl rfl, ⟨.inl rfl, trivial⟩⟩⟩⟩⟩⟩ (by kernel_rfl) (by kernel_rfl) (by kernel_rfl) c87 ?_
  rw [← e89, ← e91]
  refine TL_turn [] [0, 1, 5, 6, 7, 8, 52] [] (mk 208 [(0, (dt (.sl 3 (tables_1.map encTab)))), (1, (dt (.sl 6 (schemes_2.map encSch)))), (5, (ow 37)), (6, (ow 38)), (7, (di ((all_70 : Nat) : Int))), (8, (di ((i_71 : Nat) : Int))), (52, (.tup [(true, (qSch v_88)), (false, [(.dat (B (ok_90)))])]))] [(37, (.mapl Try.prog 3 (mapE encSch m_72))), (38, (.map Try.prog 3 4 (mapS m_73)))]) (by kernel_rfl) ?_
  refine TL_part 6 [] (mk 208 [(0, (dt (.sl 3 (tables_1.map encTab)))), (1, (dt (.sl 6 (schemes_2.map encSch)))), (5, (ow 37)), (6, (ow 38)), (7, (di ((all_70 : Nat) : Int))), (8, (di ((i_71 : Nat) : Int))), (9, (rf 9 0)), (10, (db (ok_90))), (45, (.tup [(true, (qSch v_88)), (false, [(.dat (B (ok_90)))])])), (52, (.tup [(true, (qSch v_88)), (false, [(.dat (B (ok_90)))])])), (53, (.agg (qSch v_88))), (54, (db (ok_90)))] [(9, (.var (qSch v_88))), (37, (.mapl Try.prog 3 (mapE encSch m_72))), (38, (.map Try.prog 3 4 (mapS m_73)))]) _ (by kernel_rfl) (z8 (z4 zt)) rfl ?_
  refine TL_nilQ ?_
  refine T_turn [] [0, 1, 5, 6, 7, 8, 10] [9] (mk 208 [(0, (dt (.sl 3 (tables_1.map encTab)))), (1, (dt (.sl 6 (schemes_2.map encSch)))), (5, (ow 37)), (6, (ow 38)), (7, (di ((all_70 : Nat) : Int))), (8, (di ((i_71 : Nat) : Int))), (10, (db (ok_90)))] [(37, (.mapl Try.prog 3 (mapE encSch m_72))), (38, (.map Try.prog 3 4 (mapS m_73)))]) (by kernel_rfl) ?_
  refine T_seqJ (α := Bool) (fun (v_92 : Bool) => (mk 208 [(0, (dt (.sl 3 (tables_1.map encTab)))), (1, (dt (.sl 6 (schemes_2.map encSch)))), (5, (ow 37)), (6, (ow 38)), (7, (di ((all_70 : Nat) : Int))), (8, (di ((i_71 : Nat) : Int))), (68, (db (v_92)))] [(37, (.mapl Try.prog 3 (mapE encSch m_72))), (38, (.map Try.prog 3 4 (mapS m_73)))])) (fun (v_92 : Bool) => g_law42_PrizesConserve_j13 schemes_2 i_71 m_72 x_83 tables_1 all_70 m_73 v_92 = some y1) (fun v_92 h => ?_) ?_
  refine T_cond (v_92) (by kernel_rfl) (fun b93 => ?_) (fun b93 => ?_)
  replace h := ite_t b93 h
  refine T_reg [] [4] [37, 38] (mk 208 [(4, (db true))] []) _ (by kernel_rfl) (z2 zt) ?_
  refine T_ret ?_
  replace h := up_inv h hy1
  obtain rfl := some_inv h
  exact ret_here [(db true)] (by kernel_rfl) (.inl rfl)
  replace h := ite_f b93 h
  refine T_skip ?_
  obtain ⟨x_94, e95, e96, e97, h⟩ := gn_inv encSch h
  refine T_seq (T_drawTL 10 (hl 9 [(3, (zd (encTab x_83))), (8, (zd (encSch x_94)))]) (mk 208 [(0, (dt (.sl 3 (tables_1.map encTab)))), (1, (dt (.sl 6 (schemes_2.map encSch)))), (5, (ow 37)), (6, (ow 38)), (7, (di ((all_70 : Nat) : Int))), (8, (di ((i_71 : Nat) : Int))), (68, (db (v_92))), (69, (ow 37)), (70, (dt (.sl 3 (tables_1.map encTab)))), (71, (di ((i_71 : Nat) : Int))), (72, (dt (.ptr [(I x_83.s), (I x_83.c), (.sl 14 (x_83.l.map encPlace))]))), (73, (dt (.ptr [(I x_83.c), (.sl 14 (x_83.l.map encPlace))]))), (74, (di x_83.c)), (75, (dt (.sl 6 (schemes_2.map encSch)))), (76, (di ((i_71 : Nat) : Int))), (77, (dt (.ptr [(I x_94.c), (.sl 3 (x_94.p.map encPrize)), (I x_94.u), (I x_94.d), (I x_94.ab), (I x_94.be)]))), (78, (.agg (qSch x_94)))] [(37, (.mapl Try.prog 3 (mapE encSch m_72))), (38, (.map Try.prog 3 4 (mapS m_73)))]) _ (by kernel_rfl) (by kernel_rfl) (by kernel_rfl) (z7 (zc e84 (z8 (z1 (zc e95 (z2 zt)))))) ?_)
  obtain ⟨c98, h⟩ := ck_inv h
  refine TL_storeE 26 3 30 37 _ _ _ encSch m_72 x_83.c x_94 rfl rfl (by kernel_rfl) (by kernel_rfl) (by kernel_rfl) (by kernel_rfl) (by kernel_rfl) (by kernel_rfl) c87 c98 ?_
  refine TL_turn [] [0, 1, 5, 6, 7, 8] [] (mk 208 [(0, (dt (.sl 3 (tables_1.map encTab)))), (1, (dt (.sl 6 (schemes_2.map encSch)))), (5, (ow 37)), (6, (ow 38)), (7, (di ((all_70 : Nat) : Int))), (8, (di ((i_71 : Nat) : Int)))] [(37, (.mapl Try.prog 3 (mapE encSch (putM m_72 x_83.c x_94)))), (38, (.map Try.prog 3 4 (mapS m_73)))]) (by kernel_rfl) ?_
  refine TL_nilQ ?_
  refine T_turn [] [0, 1, 5, 6, 7, 8] [] (mk 208 [(0, (dt (.sl 3 (tables_1.map encTab)))), (1, (dt (.sl 6 (schemes_2.map encSch)))), (5, (ow 37)), (6, (ow 38)), (7, (di ((all_70 : Nat) : Int))), (8, (di ((i_71 : Nat) : Int)))] [(37, (.mapl Try.prog 3 (mapE encSch (putM m_72 x_83.c x_94)))), (38, (.map Try.prog 3 4 (mapS m_73)))]) (by kernel_rfl) ?_
  refine T_reg [] [0, 1, 5, 6, 7, 8, 11] [] (mk 208 [(0, (dt (.sl 3 (tables_1.map encTab)))), (1, (dt (.sl 6 (schemes_2.map encSch)))), (5, (ow 37)), (6, (ow 38)), (7, (di ((all_70 : Nat) : Int))), (8, (di ((i_71 : Nat) : Int))), (11, (di 0))] [(37, (.mapl Try.prog 3 (mapE encSch (putM m_72 x_83.c x_94)))), (38, (.map Try.prog 3 4 (mapS m_73)))]) _ (by kernel_rfl) (z2 zt) ?_
  refine T_block ?_
  refine T_arr [] [0, 1, 5, 6, 7, 8, 11] [] [37, 38] _ (by kernel_rfl) (T_loopO (σ := Nat × Nat × (List Int)) (fun ((all_99, k_100, m_101) : Nat × Nat × (List Int)) => (mk 208 [(0, (dt (.sl 3 (tables_1.map encTab)))), (1, (dt (.sl 6 (schemes_2.map encSch)))), (5, (ow 37)), (6, (ow 38)), (7, (di ((all_99 : Nat) : Int))), (8, (di ((i_71 : Nat) : Int))), (11, (di ((k_100 : Nat) : Int)))] [(37, (.mapl Try.prog 3 (mapE encSch (putM m_72 x_83.c x_94)))), (38, (.map Try.prog 3 4 (mapS m_101)))])) (g_law42_PrizesConserve_l14 x_83 i_71 tables_1 schemes_2 m_72 x_94) (all_70, 0, m_73) h (fun v y2 hy2 h => ?_))
  obtain ⟨all_99, k_100, m_101⟩ := v
  refine T_seq ?_
  refine T_reg (hl 7 [(3, (zd (encTab x_83))), (6, (zd (I ((x_83.l.length : Nat) : Int))))]) [0, 1, 5, 6, 7, 8, 11, 86] [] (mk 208 [(0, (dt (.sl 3 (tables_1.map encTab)))), (1, (dt (.sl 6 (schemes_2.map encSch)))), (5, (ow 37)), (6, (ow 38)), (7, (di ((all_99 : Nat) : Int))), (8, (di ((i_71 : Nat) : Int))), (11, (di ((k_100 : Nat) : Int))), (86, (db (decide (((k_100 : Nat) : Int) < ((x_83.l.length : Nat) : Int)))))] [(37, (.mapl Try.prog 3 (mapE encSch (putM m_72 x_83.c x_94)))), (38, (.map Try.prog 3 4 (mapS m_101)))]) _ (by kernel_rfl) (z7 (zc e84 (z5 (zc (len_s encPlace x_83.l) (z2 zt))))) ?_
  refine T_cond (decide (((k_100 : Nat) : Int) < ((x_83.l.length : Nat) : Int))) (by kernel_rfl) (fun b105 => ?_) (fun b105 => ?_)
  replace h := ite_t b105 h
  refine T_skip ?_
  refine T_seq ?_
  refine T_block ?_
  obtain ⟨x_106, e107, e108, e109, h⟩ := gn_inv encPlace h
  refine T_seq (T_parts ?_)
  refine TL_part 11 (hl 8 [(3, (zd (encTab x_83))), (7, (zd (encPlace x_106)))]) (mk 208 [(0, (dt (.sl 3 (tables_1.map encTab)))), (1, (dt (.sl 6 (schemes_2.map encSch)))), (5, (ow 37)), (6, (ow 38)), (7, (di ((all_99 : Nat) : Int))), (8, (di ((i_71 : Nat) : Int))), (11, (di ((k_100 : Nat) : Int))), (86, (db (decide (((k_100 : Nat) : Int) < ((x_83.l.length : Nat) : Int))))), (89, (ow 38)), (90, (dt (.sl 3 (tables_1.map encTab)))), (91, (di ((i_71 : Nat) : Int))), (92, (dt (.ptr [(I x_83.s), (I x_83.c), (.sl 14 (x_83.l.map encPlace))]))), (93, (dt (.ptr [(.sl 14 (x_83.l.map encPlace))]))), (94, (dt (.sl 14 (x_83.l.map encPlace)))), (95, (di ((k_100 : Nat) : Int))), (96, (dt (.ptr [(I x_106.k), (I x_106.b), (.str x_106.z), (I x_106.r.c), (I x_106.r.pl), (I x_106.r.wo), (I x_106.r.dr), (I x_106.r.lo), (I x_106.r.fo), (I x_106.r.ag), (I x_106.r.af), (I x_106.r.aw), (I x_106.r.ca), (I x_106.r.po)]))), (97, (dt (.ptr [(I x_106.r.c), (I x_106.r.pl), (I x_106.r.wo), (I x_106.r.dr), (I x_106.r.lo), (I x_106.r.fo), (I x_106.r.ag), (I x_106.r.af), (I x_106.r.aw), (I x_106.r.ca), (I x_106.r.po)]))), (98, (dt (.ptr [(I x_106.r.c), (I x_106.r.pl), (I x_106.r.wo), (I x_106.r.dr), (I x_106.r.lo), (I x_106.r.fo), (I x_106.r.ag), (I x_106.r.af), (I x_106.r.aw), (I x_106.r.ca), (I x_106.r.po)]))), (99, (di x_106.r.c))] [(37, (.mapl Try.prog 3 (mapE encSch (putM m_72 x_83.c x_94)))), (38, (.map Try.prog 3 4 (mapS m_101)))]) _ (by kernel_rfl) (z7 (zc e84 (z7 (zc e107 (z6 zt))))) rfl ?_
  obtain ⟨c110, h⟩ := ckI_in h
  obtain ⟨c111, h⟩ := ck_inv h
  refine TL_setPut 27 3 4 38 _ _ _ m_101 x_106.r.c rfl rfl (by kernel_rfl) (by kernel_rfl) (by kernel_rfl) (by kernel_rfl) (by kernel_rfl) (by kernel_rfl) (by kernel_rfl) c110 c111 ?_
  refine TL_turn [] [0, 1, 5, 6, 7, 8, 11] [] (mk 208 [(0, (dt (.sl 3 (tables_1.map encTab)))), (1, (dt (.sl 6 (schemes_2.map encSch)))), (5, (ow 37)), (6, (ow 38)), (7, (di ((all_99 : Nat) : Int))), (8, (di ((i_71 : Nat) : Int))), (11, (di ((k_100 : Nat) : Int)))] [(37, (.mapl Try.prog 3 (mapE encSch (putM m_72 x_83.c x_94)))), (38, (.map Try.prog 3 4 (mapS (sput m_101 x_106.r.c))))]) (by kernel_rfl) ?_
  refine TL_nilQ ?_
  refine T_turn [] [0, 1, 5, 6, 7, 8, 11] [] (mk 208 [(0, (dt (.sl 3 (tables_1.map encTab)))), (1, (dt (.sl 6 (schemes_2.map encSch)))), (5, (ow 37)), (6, (ow 38)), (7, (di ((all_99 : Nat) : Int))), (8, (di ((i_71 : Nat) : Int))), (11, (di ((k_100 : Nat) : Int)))] [(37, (.mapl Try.prog 3 (mapE encSch (putM m_72 x_83.c x_94)))), (38, (.map Try.prog 3 4 (mapS (sput m_101 x_106.r.c))))]) (by kernel_rfl) ?_
  obtain ⟨c112, h⟩ := ckI_inv h
  refine T_regE [zn, (zd (I ((all_99 + 1 : Nat) : Int)))] (mk 208 [(0, (dt (.sl 3 (tables_1.map encTab)))), (1, (dt (.sl 6 (schemes_2.map encSch)))), (5, (ow 37)), (6, (ow 38)), (7, (di ((all_99 + 1 : Nat) : Int))), (8, (di ((i_71 : Nat) : Int))), (11, (di ((k_100 : Nat) : Int))), (100, (di ((all_99 : Nat) : Int))), (101, (di ((all_99 + 1 : Nat) : Int)))] [(37, (.mapl Try.prog 3 (mapE encSch (putM m_72 x_83.c x_94)))), (38, (.map Try.prog 3 4 (mapS (sput m_101 x_106.r.c))))]) _ (by kernel_rfl) (z3 (zc c112 (z2 zt))) ?_
  obtain ⟨c113, h⟩ := ckI_inv h
  exact T_regJ [zn, (zd (I ((k_100 + 1 : Nat) : Int)))] [] [0, 1, 5, 6, 7, 8, 11] [] [37, 38] _ _ (by kernel_rfl) (z3 (zc c113 (z2 zt))) (fun s hs => Exists.intro (all_99 + 1, k_100 + 1, (sput m_101 x_106.r.c)) (And.intro h hs))
  replace h := ite_f b105 h
  refine T_exit ?_
  replace h := up_inv h hy2
  exact Exists.intro (all_99, (putM m_72 x_83.c x_94), m_101) (And.intro h (arr [] [0, 1, 5, 6, 7, 8] [] [37, 38] (by kernel_rfl)))
  rcases Bool.eq_false_or_eq_true (ok_90) with b114 | b114
  replace h := ite_t b114 h
  exact T_regJD 14 [zn, zn, zg, zg, zg, zg, zg, zg, zg, zg, zg, zg, zg, (zd (B true))] [] [0, 1, 5, 6, 7, 8, 68] [] [37, 38] _ _ (by kernel_rfl) (by kernel_rfl) (by kernel_rfl) (zc (z4 (zc (gd_tf b114) (zc (gd_tf b114) (zc (gd_tf b114) (zc (gd_tf b114) (zc (gd_tf b114) (zc (gd_tf b114) (zc (gd_tf b114) (zc (gd_tf b114) (zc (gd_tf b114) (zc (gd_tf b114) (zc (gd_tf b114) (z1 (zc b114 zt)))))))))))))) zt) (fun s hs => Exists.intro true (And.intro h hs))
  replace h := ite_f b114 h
  obtain ⟨x_115, e116, e117, e118, h⟩ := gn_inv encSch h
  exact T_regJD 14 (hl 14 [(4, (zd (encSch x_115))), (9, (zd (encTab x_83))), (13, (zd (B false)))]) [] [0, 1, 5, 6, 7, 8, 68] [] [37, 38] _ _ (by kernel_rfl) (by kernel_rfl) (by kernel_rfl) (zc (z4 (zc (gd_ff b114) (z1 (zc (gd_ff b114) (z1 (zc (gd_ff b114) (zc e116 (zc (gd_ff b114) (z1 (zc (gd_ff b114) (z1 (zc (gd_ff b114) (z1 (zc (gd_ff b114) (z1 (zc (gd_ff b114) (zc e84 (zc (gd_ff b114) (z1 (zc (gd_ff b114) (z1 (zc (gd_ff b114) (z2 (zc b114 zt)))))))))))))))))))))))) zt) (fun s hs => Exists.intro (x_115.c != x_83.c) (And.intro h hs))
  replace h := ite_f b78 h
  refine T_exit ?_
  replace h := up_inv h hy1
  exact Exists.intro (all_70, m_72, m_73) (And.intro h (arr [] [0, 1, 5, 6, 7] [] [37, 38] (by kernel_rfl)))
  obtain ⟨r_119, e120, h⟩ := bd_inv h
  rcases Bool.eq_false_or_eq_true (!(r_119)) with b121 | b121
  replace h := ite_t b121 h
  exact T_regJ [zn, zn, (zd (B (r_119))), zn, zn, zg, zg, zg, zg, zg, (zd (B true))] [] [0, 1, 36] [] [] _ _ (by kernel_rfl) (z5 (zc (g_ref42_Few_ret e120) (z4 (zc (gd_tf b121) (zc (gd_tf b121) (zc (gd_tf b121) (zc (gd_tf b121) (zc (gd_tf b121) (z1 (zc b121 zt)))))))))) (fun s hs => Exists.intro true (And.intro h hs))
  replace h := ite_f b121 h
  exact T_regJ [zn, zn, (zd (B (r_119))), zn, zn, zn, (zd (I ((tables_1.length : Nat) : Int))), zn, (zd (I ((schemes_2.length : Nat) : Int))), zn, (zd (B false))] [] [0, 1, 36] [] [] _ _ (by kernel_rfl) (z5 (zc (g_ref42_Few_ret e120) (z4 (zc (gd_ff b121) (z1 (zc (gd_ff b121) (zc (len_s encTab tables_1) (zc (gd_ff b121) (z1 (zc (gd_ff b121) (zc (len_s encSch schemes_2) (zc (gd_ff b121) (z2 (zc b121 zt)))))))))))))) (fun s hs => Exists.intro (((tables_1.length : Nat) : Int) != ((schemes_2.length : Nat) : Int)) (And.intro h hs))

end Go.Proofs.Ytoiiblkncbnlaaa

/-
  Chapter 42: which clubs rise and fall. Conditions: those of each theorem.
-/
set_option linter.unusedVariables false
set_option linter.unusedSimpArgs false
namespace Go.Proofs.Ytoiiblkncbnlaaa
open Go.DL
def clubsL (l : List Place) : List Int := srtI (l.map clubOf)
def insAllI (l : List Int) : List Int := l.foldl (fun o n => insI n o) []
theorem insI_perm (n : Int) (l : List Int) : (insI n l).Perm (n :: l) := by
  induction l with
  | nil => exact List.Perm.refl _
  | cons x l ih =>
    rw [insI]; split
    · exact (ih.cons x).trans (List.Perm.swap n x l)
    · exact List.Perm.refl _
theorem insI_sorted {n : Int} {l : List Int} (h : l.Pairwise (· ≤ ·)) : (insI n l).Pairwise (· ≤ ·) := by
  induction l with
  | nil => simp [insI]
  | cons x l ih =>
    have h1 := List.pairwise_cons.1 h
    rw [insI]; split
    · rename_i hlt
      refine List.pairwise_cons.2 ⟨fun y hy => ?_, ih h1.2⟩
      rcases List.mem_cons.1 ((insI_perm n l).mem_iff.1 hy) with rfl | hy
      · omega
      · exact h1.1 y hy
    · rename_i hlt
      refine List.pairwise_cons.2 ⟨fun y hy => ?_, h⟩
      rcases List.mem_cons.1 hy with rfl | hy
      · omega
      · have := h1.1 y hy; omega
theorem foldl_ins (l : List Int) : ∀ o : List Int, o.Pairwise (· ≤ ·) → (l.foldl (fun o n => insI n o) o).Perm (o ++ l) ∧ (l.foldl (fun o n => insI n o) o).Pairwise (· ≤ ·) := by
  induction l with
  | nil => intro o h; exact ⟨by simp, h⟩
  | cons x l ih =>
    intro o h
    obtain ⟨h1, h2⟩ := ih (insI x o) (insI_sorted h)
    refine ⟨h1.trans ?_, h2⟩
    exact ((insI_perm x o).append_right l).trans (List.perm_middle.symm)
theorem insAllI_eq (l : List Int) : insAllI l = srtI l := by
  obtain ⟨h1, h2⟩ := foldl_ins l [] List.Pairwise.nil
  have h3 : (srtI l).Pairwise (· ≤ ·) := (List.pairwise_mergeSort (le := fun x y => decide (x ≤ y)) (fun a b c h1 h2 => by simp at *; omega) (fun a b => by simp; omega) l).imp fun h => by simpa using h
  exact ((h1.trans (by simp)).trans (srtI_perm l).symm).eq_of_pairwise (fun a b _ _ h1 h2 => by omega) h2 h3
def movE (t : Tab) (s : Sch) : Int := if fitS t s ≠ 0 then fitS t s else if s.u + s.d > (t.l.length : Int) then 420 else 0
def upM (t : Tab) (s : Sch) : List Int := if movE t s ≠ 0 then [] else clubsL (t.l.take s.u.toNat)
def downM (t : Tab) (s : Sch) : List Int := if movE t s ≠ 0 then [] else clubsL (t.l.drop (t.l.length - s.d.toNat))
theorem movE_bad {t : Tab} {s : Sch} (h : fitS t s ≠ 0) : movE t s = fitS t s := by rw [movE, if_pos h]
theorem movE_420 {t : Tab} {s : Sch} (h : fitS t s = 0) (h2 : s.u + s.d > (t.l.length : Int)) : movE t s = 420 := by rw [movE, if_neg (by omega), if_pos h2]
theorem movE_ok {t : Tab} {s : Sch} (h : fitS t s = 0) (h2 : ¬ s.u + s.d > (t.l.length : Int)) : movE t s = 0 := by rw [movE, if_neg (by omega), if_neg h2]
theorem upM_nil {t : Tab} {s : Sch} (h : movE t s ≠ 0) : upM t s = [] := by rw [upM, if_pos h]
theorem downM_nil {t : Tab} {s : Sch} (h : movE t s ≠ 0) : downM t s = [] := by rw [downM, if_pos h]
theorem upM_ok {t : Tab} {s : Sch} (h : movE t s = 0) : upM t s = clubsL (t.l.take s.u.toNat) := by rw [upM, if_neg (by omega)]
theorem downM_ok {t : Tab} {s : Sch} (h : movE t s = 0) : downM t s = clubsL (t.l.drop (t.l.length - s.d.toNat)) := by rw [downM, if_neg (by omega)]
theorem fit_ranges {t : Tab} {s : Sch} (h : fitS t s = 0) : 0 ≤ s.u ∧ s.u ≤ 24 ∧ 0 ≤ s.d ∧ s.d ≤ 24 ∧ 2 ≤ t.l.length ∧ t.l.length ≤ 24 := by
  obtain ⟨h1, h2, _⟩ := fitS_ok h
  rcases chkT_cases t with h3 | ⟨_, h3, _⟩
  · omega
  · rcases chkS_cases s with h4 | ⟨_, h4, _⟩
    · omega
    · unfold headT at h3; unfold headS at h4; omega
end Go.Proofs.Ytoiiblkncbnlaaa

/-
  Chapter 42: what the partial functions of the program compute: the checks. Conditions: those of each theorem.
-/
set_option linter.unusedVariables false
set_option linter.unusedSimpArgs false
namespace Go.DL
theorem loopO_ind {σ ρ : Type} {step : σ → Option (σ ⊕ ρ)} {r : ρ} (I : σ → Prop) (μ : σ → Nat) (h : ∀ x, I x → step x = some (.inr r) ∨ ∃ y, step x = some (.inl y) ∧ I y ∧ μ y < μ x) : ∀ x, I x → loopO step x = some r := by
  have key : ∀ n x, μ x = n → I x → loopO step x = some r := by
    intro n
    induction n using Nat.strongRecOn with
    | _ n ih =>
      intro x hn hx
      rcases h x hx with h1 | ⟨y, h1, h2, h3⟩
      · exact loopO_inr h1
      · rw [loopO_inl h1]
        exact ih (μ y) (by omega) y rfl h2
  exact fun x hx => key _ x rfl hx
end Go.DL
namespace Go.Proofs.Ytoiiblkncbnlaaa
open Go.DL
theorem within_eq (n a b : Int) : g_table_within n a b = some (decide (a ≤ n ∧ n ≤ b)) := by
  simp only [g_table_within]
  by_cases h1 : a ≤ n <;> by_cases h2 : n ≤ b <;> simp [h1, h2]
theorem within2_eq (n a b : Int) : g_prizes_Check_1 n a b = some (decide (a ≤ n ∧ n ≤ b)) := by
  simp only [g_prizes_Check_1]
  by_cases h1 : a ≤ n <;> by_cases h2 : n ≤ b <;> simp [h1, h2]
theorem checkRow_eq (r : Row) : g_table_checkRow r = some (rowOK r) := by
  unfold g_table_checkRow
  refine loopO_ind (fun k => k ≤ 9 ∧ ((nums r).drop k).all inR = (nums r).all inR) (fun k => 9 - k) ?_ 0 ⟨by omega, rfl⟩
  rintro k ⟨hk, iv⟩
  have h9 : (nums r).length = 9 := rfl
  by_cases hlt : k < 9
  · obtain ⟨x, hx⟩ : ∃ x, (nums r)[k]? = some x := ⟨_, List.getElem?_eq_getElem (by omega)⟩
    have hx' : ([r.pl, r.wo, r.dr, r.lo, r.fo, r.ag, r.af, r.aw, r.ca] : List Int)[k]? = some x := hx
    simp only [g_table_checkRow_l2, gn_some hx', within_eq, bd_some]
    by_cases hb : 0 ≤ x ∧ x ≤ 9999
    · right
      refine ⟨k + 1, ?_, ⟨by omega, all_step iv hx hb⟩, by omega⟩
      rw [ckI_pos (by omega) (by omega)]
      simp [hb]; omega
    · left
      have h1 : rowOK r = false := rowOK_no (all_stop iv hx (by omega))
      simp [hb, h1]; omega
  · left
    have he := all_end iv (by omega)
    have h1 : ¬ (k < 9) := by omega
    rw [rowOK_of he]
    by_cases hc : 0 ≤ r.c ∧ r.c ≤ 191 <;> by_cases hp : -99999 ≤ r.po ∧ r.po ≤ 99999 <;> simp [g_table_checkRow_l2, g_table_checkRow_j1, within_eq, h1, hc, hp] <;> omega
theorem row_step {t : Tab} {k : Nat} {m : List Int} {e x : Place} (hl : t.l.length ≤ 1000) (hx : t.l[k]? = some x) (he : 0 < k → t.l[k - 1]? = some e) (im : Seen m t.l k) (iml : m.length ≤ k) (hc : rowOK x.r = true → 0 ≤ x.r.c ∧ x.r.c ≤ 191) :
    g_table_Check_l3 t (k, m) = if placeOK k e ((t.l.take k).map clubOf) x then some (.inl (k + 1, sput m x.r.c)) else some (.inr 1) := by
  have hlt := (List.getElem?_eq_some_iff.1 hx).1
  have hs := im x.r.c
  have hmem : ∀ b, smem m x.r.c = b → (x.r.c ∉ (t.l.take k).map clubOf ↔ b = false) := fun b hb => by
    rw [hs] at hb; rw [← hb]; simp
  have hmx : m.length < maxLen := by simp only [maxLen]; omega
  have h6 : ∀ b, rowOK x.r = true → g_table_Check_j6 x m k t b = if b = true then some (.inr 1) else some (.inl (k + 1, sput m x.r.c)) := fun b hr => by
    have := hc hr
    cases b
    · simp only [g_table_Check_j6]; rw [ckI_pos (by omega) (by omega), ck_pos hmx, ckI_pos (by omega) (by omega)]; simp
    · simp [g_table_Check_j6]
  have h6t : g_table_Check_j6 x m k t true = some (.inr 1) := by simp [g_table_Check_j6]
  have h5 : ∀ b, g_table_Check_j5 x m k t b = if b = true ∧ x.z.length ≤ 24 ∧ rowOK x.r = true ∧ smem m x.r.c = false then some (.inl (k + 1, sput m x.r.c)) else some (.inr 1) := fun b => by
    simp only [g_table_Check_j5, checkRow_eq, bd_some, h6t]
    cases b
    · simp
    · by_cases hz : x.z.length ≤ 24
      · cases hr : rowOK x.r
        · simp
        · have := hc hr
          simp only [h6 _ hr]
          rw [ckI_pos (by omega) (by omega)]
          cases smem m x.r.c <;> simp [hz] <;> omega
      · simp [hz]; omega
  have e1 : -9223372036854775808 ≤ ((k : Nat) : Int) + 1 ∧ ((k : Nat) : Int) + 1 ≤ 9223372036854775807 := by omega
  have hsm := hmem _ rfl
  obtain ⟨R, hR⟩ : ∃ R, R = if placeOK k e ((t.l.take k).map clubOf) x then (some (.inl (k + 1, sput m x.r.c)) : Option ((Nat × List Int) ⊕ Int)) else some (.inr 1) := ⟨_, rfl⟩
  rw [← hR]
  have hend : ∀ b : Bool, (b = true ↔ shapeOK k e x) → g_table_Check_j5 x m k t b = R := fun b hb => by
    rw [h5, hR]
    by_cases hp : placeOK k e ((t.l.take k).map clubOf) x
    · rw [if_pos hp, if_pos ⟨hb.2 hp.1, hp.2.1, hp.2.2.1, hsm.1 hp.2.2.2⟩]
    · rw [if_neg hp, if_neg fun h => hp ⟨hb.1 h.1, h.2.1, h.2.2.1, hsm.2 h.2.2.2⟩]
  rcases Nat.eq_zero_or_pos k with h0 | h0
  · subst h0
    have j7 : ∀ b, g_table_Check_j4 0 t x m b = g_table_Check_j5 x m 0 t b := fun b => by simp [g_table_Check_j4, g_table_Check_j7]
    simp only [g_table_Check_l3, gn_some hx, within_eq, bd_some, j7]
    rw [ckI_pos e1.1 e1.2, if_pos (by simp; omega)]
    simp
    repeat' split
    all_goals (refine hend _ ?_; unfold shapeOK; simp_all; try omega)
  · have hg : t.l[(((k : Nat) : Int) - 1).toNat]? = some e := by rw [show (((k : Nat) : Int) - 1).toNat = k - 1 from by omega]; exact he h0
    have hk0 : ¬ k = 0 := by omega
    have j4 : ∀ b, g_table_Check_j4 k t x m b = if x.k = e.k then (if x.b = 0 then g_table_Check_j5 x m k t (decide (x.r.c > e.r.c)) else g_table_Check_j5 x m k t false) else g_table_Check_j5 x m k t b := fun b => by
      simp only [g_table_Check_j4, g_table_Check_j7]
      rw [if_pos (by simp; omega), ckI_pos (by omega) (by omega), gt_some hg (by omega), ckI_pos (by omega) (by omega), gt_some hg (by omega)]
      simp
    simp only [g_table_Check_l3, gn_some hx, within_eq, bd_some, j4]
    rw [ckI_pos e1.1 e1.2, if_pos (by simp; omega)]
    simp [h0, hk0]
    repeat' split
    all_goals (refine hend _ ?_; unfold shapeOK; simp_all; try omega)
theorem rowOK_c {r : Row} (h : rowOK r = true) : 0 ≤ r.c ∧ r.c ≤ 191 := by
  unfold rowOK at h
  rw [Bool.and_eq_true] at h
  have := of_decide_eq_true h.2
  omega
theorem tloop_eq {t : Tab} (hl : t.l.length ≤ 1000) (hh : headT t) : loopO (g_table_Check_l3 t) (0, []) = some (chkT t) := by
  refine loopO_ind (fun v => ∃ e, v.1 ≤ t.l.length ∧ plOK v.1 e ((t.l.take v.1).map clubOf) (t.l.drop v.1) = plOK 0 noPlace [] t.l ∧ (0 < v.1 → t.l[v.1 - 1]? = some e) ∧ Seen v.2 t.l v.1 ∧ v.2.length ≤ v.1) (fun v => t.l.length - v.1) ?_ (0, []) ⟨noPlace, by simp, rfl, by simp, seen_zero _, by simp⟩
  rintro ⟨k, m⟩ ⟨e, hk, iv, he, im, iml⟩
  dsimp only at hk iv he im iml
  by_cases hlt : k < t.l.length
  · obtain ⟨x, hx⟩ : ∃ x, t.l[k]? = some x := ⟨_, List.getElem?_eq_getElem hlt⟩
    rw [row_step hl hx he im iml rowOK_c]
    by_cases hp : placeOK k e ((t.l.take k).map clubOf) x
    · right
      rw [if_pos hp]
      refine ⟨_, rfl, ⟨x, hlt, plOK_step iv hx hp, fun _ => by simpa using hx, seen_step im hx, ?_⟩, by dsimp only; omega⟩
      have := sput_le x.r.c m
      dsimp only; omega
    · left
      rw [if_neg hp, ← chkT_bad2 (plOK_stop iv hx hp)]
  · left
    have h1 : ¬ (k < t.l.length) := hlt
    have h2 := chkT_ok hh (plOK_end iv (by omega))
    simp [g_table_Check_l3, g_table_Check_j2, h1, ← h2]
theorem tcheck_eq {t : Tab} (hl : t.l.length ≤ 1000) : g_table_Check t = some (chkT t) := by
  simp only [g_table_Check, within_eq, bd_some]
  have j1 : g_table_Check_j1 t true = some 1 := by simp [g_table_Check_j1]
  by_cases h : headT t
  · obtain ⟨h1, h2, h3, h4, h5, h6⟩ := h
    have j2 : g_table_Check_j1 t false = some (chkT t) := by simp only [g_table_Check_j1]; exact tloop_eq hl ⟨h1, h2, h3, h4, h5, h6⟩
    have g1 : (2 : Int) ≤ (t.l.length : Int) ∧ (t.l.length : Int) ≤ 24 := by omega
    simp [h1, h2, h3, h4, g1, j2]
  · rw [← chkT_bad h]
    unfold headT at h
    by_cases h1 : 0 ≤ t.s ∧ t.s ≤ 63 <;> by_cases h2 : 0 ≤ t.c ∧ t.c ≤ 15
    · have g1 : ¬ ((2 : Int) ≤ (t.l.length : Int) ∧ (t.l.length : Int) ≤ 24) := by omega
      simp only [h1, h2, g1, j1]; simp [j1]
    all_goals simp [h1, h2, j1]
end Go.Proofs.Ytoiiblkncbnlaaa

/-
  Chapter 42: what the partial functions compute: schemes, what fits. Conditions: those of each theorem.
-/
set_option linter.unusedVariables false
set_option linter.unusedSimpArgs false
namespace Go.Proofs.Ytoiiblkncbnlaaa
open Go.DL
set_option maxHeartbeats 4000000
theorem pj2_eq {s : Sch} {n : Int} (hh : headS s) : g_prizes_Check_j2 s n = some (if n ≤ 1125899906842624 ∧ tailS s then 0 else 420) := by
  unfold headS at hh
  obtain ⟨_, _, _, hu, _, hd, _⟩ := hh
  obtain ⟨R, hR⟩ : ∃ R : Int, R = if n ≤ 1125899906842624 ∧ tailS s then 0 else 420 := ⟨_, rfl⟩
  have h0 : n ≤ 1125899906842624 ∧ tailS s → some (0 : Int) = some R := fun h => by rw [hR, if_pos h]
  have h1 : ¬ (n ≤ 1125899906842624 ∧ tailS s) → some (420 : Int) = some R := fun h => by rw [hR, if_neg h]
  rw [← hR]
  clear hR
  unfold tailS at h0 h1
  simp only [g_prizes_Check_j2, g_prizes_Check_j4, g_prizes_Check_j5, g_prizes_Check_j3, within2_eq, bd_some, decide_eq_true_eq, Bool.not_eq_true', decide_eq_false_iff_not, beq_iff_eq, bne_iff_ne, bne_eq_false_iff_eq, Bool.false_eq_true, if_true, if_false]
  repeat' split
  all_goals first | (refine h1 ?_; omega) | (refine h0 ?_; omega)
theorem ploop_eq {s : Sch} (hh : headS s) : loopO (g_prizes_Check_l6 s) (0, 0, 0) = some (chkS s) := by
  have hlen := hh.2.2.1
  refine loopO_ind (fun v => v.2.2 ≤ s.p.length ∧ prOK v.2.1 (s.p.drop v.2.2) = prOK 0 s.p ∧ sumL v.1 ((s.p.drop v.2.2).map (·.a)) = sumA s.p ∧ 0 ≤ v.1 ∧ v.1 ≤ 1125899906842624 * (v.2.2 : Int)) (fun v => s.p.length - v.2.2) ?_ (0, 0, 0) ⟨by simp, rfl, rfl, by simp, by simp⟩
  rintro ⟨n, la, k⟩ ⟨hk, iv, is, hn0, hn1⟩
  dsimp only at hk iv is hn0 hn1
  by_cases hlt : k < s.p.length
  · obtain ⟨x, hx⟩ : ∃ x, s.p[k]? = some x := ⟨_, List.getElem?_eq_getElem hlt⟩
    have j7t : g_prizes_Check_j7 n x k s true = some (.inr 420) := by simp [g_prizes_Check_j7]
    have j7f : g_prizes_Check_j7 n x k s (!decide (1 ≤ x.a ∧ x.a ≤ 1125899906842624)) = if 1 ≤ x.a ∧ x.a ≤ 1125899906842624 then some (.inl (n + x.a, x.t, k + 1)) else some (.inr 420) := by
      by_cases ha : 1 ≤ x.a ∧ x.a ≤ 1125899906842624
      · rw [if_pos ha, decide_eq_true ha]
        simp only [g_prizes_Check_j7]
        rw [ckI_pos (by omega) (by omega), ckI_pos (by omega) (by omega)]; simp
      · rw [if_neg ha, decide_eq_false ha]; exact j7t
    have hstep : g_prizes_Check_l6 s (n, la, k) = if x.f ≤ la ∨ x.t < x.f ∨ x.t > 24 ∨ x.a < 1 ∨ x.a > 1125899906842624 then some (.inr 420) else some (.inl (n + x.a, x.t, k + 1)) := by
      simp only [g_prizes_Check_l6, gn_some hx, within2_eq, bd_some, j7t, j7f]
      rw [if_pos (by simp; omega)]
      by_cases h1 : x.f ≤ la
      · simp [h1]
      · by_cases h2 : x.t < x.f
        · simp [h1, h2]
        · by_cases h3 : x.t > 24
          · simp [h1, h2, h3]
          · by_cases h4 : 1 ≤ x.a ∧ x.a ≤ 1125899906842624
            · have h5 : ¬ (x.f ≤ la ∨ x.t < x.f ∨ x.t > 24 ∨ x.a < 1 ∨ x.a > 1125899906842624) := by omega
              rw [if_pos h4, if_neg h5]; simp [h1, h2, h3]
            · have h5 : x.f ≤ la ∨ x.t < x.f ∨ x.t > 24 ∨ x.a < 1 ∨ x.a > 1125899906842624 := by omega
              rw [if_neg h4, if_pos h5]; simp [h1, h2, h3]
    rw [hstep]
    by_cases hb : x.f ≤ la ∨ x.t < x.f ∨ x.t > 24 ∨ x.a < 1 ∨ x.a > 1125899906842624
    · left; rw [if_pos hb, ← chkS_bad2 (prOK_stop iv hx hb)]
    · right
      rw [if_neg hb]
      exact ⟨_, rfl, ⟨hlt, prOK_step iv hx hb, sumA_step is hx, by dsimp only; omega, by dsimp only; omega⟩, by dsimp only; omega⟩
  · left
    have hs := sumA_end is (by omega)
    have hp := prOK_end iv (by omega)
    have h1 : g_prizes_Check_l6 s (n, la, k) = up (g_prizes_Check_j2 s n) := by simp [g_prizes_Check_l6, hlt]
    rw [h1, pj2_eq hh, up_some]
    congr 2
    rw [chkS]
    by_cases ht : n ≤ 1125899906842624 ∧ tailS s
    · rw [if_pos ht, if_pos ⟨hh, ht.2, hp, by omega⟩]
    · rw [if_neg ht, if_neg]; rintro ⟨_, h2, _, h3⟩; exact ht ⟨by omega, h2⟩
theorem pcheck_eq {s : Sch} (hl : s.p.length ≤ 1000) : g_prizes_Check s = some (chkS s) := by
  simp only [g_prizes_Check, within2_eq, bd_some]
  have j1t : g_prizes_Check_j1 s true = some 420 := by simp [g_prizes_Check_j1]
  by_cases hh : headS s
  · have j1f : g_prizes_Check_j1 s false = some (chkS s) := by simp only [g_prizes_Check_j1]; exact ploop_eq hh
    obtain ⟨h1, h2, h3, h4, h5, h6, h7⟩ := hh
    have g1 : ¬ ((s.p.length : Int) > 24) := by omega
    simp [h1, h2, h4, h5, h6, h7, g1, j1f]
  · rw [← chkS_bad (fun h => hh h.1)]
    unfold headS at hh
    by_cases h1 : 0 ≤ s.c ∧ s.c ≤ 7
    · by_cases h2 : 0 ≤ s.u ∧ s.u ≤ 24
      · by_cases h3 : 0 ≤ s.d ∧ s.d ≤ 24
        · have g1 : (s.p.length : Int) > 24 := by omega
          simp only [h1, h2, h3, g1, j1t]; simp [j1t]
        · simp [h1, h2, h3, j1t]
      · simp [h1, h2, j1t]
    · simp [h1, j1t]
end Go.Proofs.Ytoiiblkncbnlaaa

/-
  Chapter 42: what the reference's checks compute. Conditions: those of each theorem.
-/
set_option linter.unusedVariables false
set_option linter.unusedSimpArgs false
namespace Go.Proofs.Ytoiiblkncbnlaaa
open Go.DL
set_option maxHeartbeats 4000000
end Go.Proofs.Ytoiiblkncbnlaaa

/-
  Chapter 42: what the reference's check of a table computes; what fits. Conditions: those of each theorem.
-/
set_option linter.unusedVariables false
set_option linter.unusedSimpArgs false
namespace Go.Proofs.Ytoiiblkncbnlaaa
open Go.DL
set_option maxHeartbeats 4000000
section
variable {t : Tab} {i : Nat} {x e : Place} {K : Nat ⊕ Int → Prop}
end
theorem fits_eq {t : Tab} {s : Sch} (hl : t.l.length ≤ 1000) (hs : s.p.length ≤ 1000) : g_prizes_fits t s = some (fitS t s) := by
  refine WP.eq ?_
  unfold g_prizes_fits fitS
  refine WP.bd (tcheck_eq hl) ?_
  (repeat' (first | with_reducible (first | refine WP.iteT ?_ | refine WP.iteF ?_ | refine WP.iteNb ?_ | refine WP.iteD (fun _ => ?_) (fun _ => ?_) | refine WP.iteE (fun _ => ?_) (fun _ => ?_) | refine WP.iteN (fun _ => ?_) (fun _ => ?_) | refine WP.iteB (fun _ => ?_) (fun _ => ?_)) | (with_reducible refine WP.ckI ?_ ?_; · omega) | (with_reducible refine WP.gn ?_ (fun _ _ => ?_); · omega) | (with_reducible refine WP.gt ?_ (fun _ _ => ?_); · omega) | with_reducible (first | refine WP.up ?_ | refine WP.letO ?_ | refine WP.ret ?_)))
  · rw [if_pos ‹_›]
  · rename_i h
    rw [if_neg (show ¬ chkT t ≠ 0 by omega)]
    refine WP.bd (pcheck_eq hs) ?_
    refine WP.iteN (fun h2 => ?_) (fun h2 => ?_)
    · rw [if_pos h2]; exact WP.ret rfl
    · rw [if_neg (show ¬ chkS s ≠ 0 by omega)]
      refine WP.iteN (fun h3 => ?_) (fun h3 => ?_)
      · rw [if_pos h3]; exact WP.ret rfl
      · rw [if_neg (show ¬ t.c ≠ s.c by omega)]; exact WP.ret rfl
end Go.Proofs.Ytoiiblkncbnlaaa

/-
  Chapter 42: the reference's prizes, plainly. Conditions: those of each theorem.
-/
set_option linter.unusedVariables false
set_option linter.unusedSimpArgs false
namespace Go.Proofs.Ytoiiblkncbnlaaa
open Go.DL
theorem part_bounds42 {ps : List Prize} {last : Int} (h : prOK last ps = true) (r : Int) : 0 ≤ part ps r ∧ part ps r ≤ 1125899906842624 := by
  induction ps generalizing last with
  | nil => simp [part]
  | cons q l ih =>
    have hm := prOK_mem h q (by simp)
    rw [prOK] at h
    split at h
    · cases h
    · rw [part]; split
      · rename_i hr
        have hlt : (r - q.f).toNat < (q.t - q.f + 1).toNat := by omega
        have hb := eqL_bounds (a := q.a) (n := (q.t - q.f + 1).toNat) (by omega) (List.mem_of_getElem? (eqL_get (by omega) hlt))
        rw [List.getD, eqL_get (by omega) hlt]
        simp only [Option.getD_some]
        omega
      · exact ih h
theorem sumL_snoc (l : List Int) (x : Int) : sumL 0 (l ++ [x]) = sumL 0 l + x := by
  have : ∀ n : Int, sumL n (l ++ [x]) = sumL n l + x := by
    induction l with
    | nil => intro n; rfl
    | cons y l ih => intro n; simp only [List.cons_append, sumL]; exact ih _
  exact this 0
theorem share_yes {ps : List Place} {ns : List Int} {j : Nat} {y : Place} {n : Int} (hp : ps[j]? = some y) (hn : ns[j]? = some n) (h : n > 0) : share (ps.drop j) (ns.drop j) = ⟨y.r.c, n⟩ :: share (ps.drop (j + 1)) (ns.drop (j + 1)) := by
  rw [drop_cons hp, drop_cons hn, share, if_pos h]
theorem share_no {ps : List Place} {ns : List Int} {j : Nat} {y : Place} {n : Int} (hp : ps[j]? = some y) (hn : ns[j]? = some n) (h : ¬ n > 0) : share (ps.drop j) (ns.drop j) = share (ps.drop (j + 1)) (ns.drop (j + 1)) := by
  rw [drop_cons hp, drop_cons hn, share, if_neg h]
abbrev insF (o : List Pay) (l : List Pay) : List Pay := l.foldl (fun o p => insP p o) o
end Go.Proofs.Ytoiiblkncbnlaaa
namespace Go.Proofs.Ytoiiblkncbnlaaa
open Go.DL
theorem fit_prizes {t : Tab} {s : Sch} (h : fitS t s = 0) : prOK 0 s.p = true ∧ sumA s.p ≤ 1125899906842624 ∧ s.p.length ≤ 24 := by
  obtain ⟨_, h2, _⟩ := fitS_ok h
  rcases chkS_cases s with h4 | ⟨_, h4, _, h5, h6⟩
  · omega
  · unfold headS at h4; exact ⟨h5, h6, by omega⟩
end Go.Proofs.Ytoiiblkncbnlaaa

/-
  Chapter 42: all parts together are the amounts. Conditions: those of each theorem.
-/
set_option linter.unusedVariables false
set_option linter.unusedSimpArgs false
namespace Go.Proofs.Ytoiiblkncbnlaaa
open Go.DL
theorem sumL_append (l m : List Int) : sumL 0 (l ++ m) = sumL 0 l + sumL 0 m := by
  have : ∀ n : Int, sumL n (l ++ m) = sumL n l + sumL 0 m := by
    induction l with
    | nil => intro n; have := sumL_add m 0 n; simp only [List.nil_append, sumL]; rw [← Int.zero_add n, this]; omega
    | cons y l ih => intro n; simp only [List.cons_append, sumL]; exact ih _
  exact this 0
theorem sumL_rep0 (n : Nat) : sumL 0 (List.replicate n 0) = 0 := by
  induction n with
  | zero => rfl
  | succ n ih => rw [List.replicate_succ']; rw [sumL_append, ih]; rfl
theorem eqL_list {a : Int} (ha : 0 ≤ a) (n : Nat) : eqL a n = (List.range n).map fun j : Nat => a / n + if (j : Int) < a % n then 1 else 0 := by
  apply List.ext_getElem?
  intro j
  by_cases hj : j < n
  · rw [eqL_get ha hj, List.getElem?_map, List.getElem?_range hj]; rfl
  · rw [List.getElem?_eq_none (by rw [eqL_length]; omega), List.getElem?_eq_none (by simp; omega)]
theorem sum_range_ind (c r : Int) (h0 : 0 ≤ r) : ∀ n : Nat, sumL 0 ((List.range n).map fun j : Nat => c + if (j : Int) < r then 1 else 0) = c * n + (if (n : Int) ≤ r then (n : Int) else r)
  | 0 => by simp [sumL]; omega
  | n + 1 => by
    rw [List.range_succ, List.map_append, sumL_append, sum_range_ind c r h0 n]
    simp only [List.map_cons, List.map_nil, sumL, Int.natCast_add, Int.natCast_one, Int.mul_add, Int.mul_one]
    split <;> split <;> split <;> omega
theorem eqL_sum {a : Int} {n : Nat} (ha : 0 ≤ a) (hn : 1 ≤ n) : sumL 0 (eqL a n) = a := by
  have h1 := Int.emod_nonneg a (show (n : Int) ≠ 0 by omega)
  have h2 := Int.emod_lt_of_pos a (show (0 : Int) < n by omega)
  have h3 := Int.mul_ediv_add_emod a n
  rw [eqL_list ha, sum_range_ind _ _ h1, if_neg (by omega), Int.mul_comm]
  omega
/-- What one prize gives to the ranks. -/
def onePart (q : Prize) (i : Nat) : Int := if q.f ≤ ((i + 1 : Nat) : Int) ∧ ((i + 1 : Nat) : Int) ≤ q.t then (eqL q.a (q.t - q.f + 1).toNat).getD (((i + 1 : Nat) : Int) - q.f).toNat 0 else 0
theorem onePart_list {q : Prize} (h1 : 1 ≤ q.f) (h2 : q.f ≤ q.t) (h3 : q.t ≤ 24) : (List.range 24).map (onePart q) = List.replicate (q.f.toNat - 1) 0 ++ eqL q.a (q.t - q.f + 1).toNat ++ List.replicate (24 - q.t.toNat) 0 := by
  have hlen := eqL_length q.a (q.t - q.f + 1).toNat
  apply List.ext_getElem?
  intro j
  by_cases hj : j < 24
  · rw [List.getElem?_map, List.getElem?_range hj, Option.map_some, onePart]
    by_cases ha : (j : Int) + 1 < q.f
    · rw [if_neg (by omega), List.append_assoc, List.getElem?_append_left (by simp; omega), List.getElem?_replicate, if_pos (by omega)]
    · by_cases hb : (j : Int) + 1 ≤ q.t
      · rw [if_pos (by omega), List.append_assoc, List.getElem?_append_right (by simp; omega), List.getElem?_append_left (by simp; omega), List.length_replicate, List.getD]
        have e : (((j + 1 : Nat) : Int) - q.f).toNat = j - (q.f.toNat - 1) := by omega
        rw [e, List.getElem?_eq_getElem (by omega)]; rfl
      · rw [if_neg (by omega), List.getElem?_append_right (by simp; omega), List.getElem?_replicate, if_pos (by simp; omega)]
  · rw [List.getElem?_eq_none (by simp; omega), List.getElem?_eq_none (by simp; omega)]
theorem map_add (l : List Nat) (f g : Nat → Int) : sumL 0 (l.map fun i => f i + g i) = sumL 0 (l.map f) + sumL 0 (l.map g) := by
  induction l with
  | nil => rfl
  | cons x l ih =>
    have e : ∀ (y : Int) (l : List Int), sumL 0 (y :: l) = sumL 0 l + y := fun y l => by simp only [sumL]; exact sumL_add l 0 y
    simp only [List.map_cons, e, ih]; omega
theorem partL_sum {ps : List Prize} : ∀ {last : Int}, 0 ≤ last → prOK last ps = true → sumL 0 (partL ps) = sumA ps := by
  induction ps with
  | nil =>
    intro last _ _
    have : partL [] = List.replicate 24 0 := by decide
    rw [this, sumL_rep0]; rfl
  | cons q l ih =>
    intro last h0 h
    have hm := prOK_mem h q (by simp)
    rw [prOK] at h
    split at h
    · cases h
    · have e1 : partL (q :: l) = (List.range 24).map fun i : Nat => onePart q i + part l ((i + 1 : Nat) : Int) := by
        unfold partL
        refine List.map_congr_left fun i _ => ?_
        show part (q :: l) ((i : Int) + 1) = _
        rw [part, onePart]
        have hc : ((i + 1 : Nat) : Int) = (i : Int) + 1 := by omega
        rw [hc]
        split
        · rename_i hr
          rw [part_low h hr.2]; omega
        · omega
      have e2 : sumA (q :: l) = sumA l + q.a := by unfold sumA; simp only [List.map_cons, sumL]; exact sumL_add _ 0 q.a
      rw [e1, map_add, onePart_list (by omega) (by omega) (by omega), sumL_append, sumL_append, sumL_rep0, sumL_rep0, eqL_sum (by omega) (by omega), e2, ← ih (by omega) h]
      unfold partL
      have : (fun i : Nat => part l ((i + 1 : Nat) : Int)) = fun i : Nat => part l ((i : Int) + 1) := by funext i; congr 1
      rw [this]; omega
theorem sumL_take_le {l : List Int} (h : ∀ x ∈ l, 0 ≤ x) (m : Nat) : sumL 0 (l.take m) ≤ sumL 0 l ∧ 0 ≤ sumL 0 (l.drop m) := by
  have e := sumL_append (l.take m) (l.drop m)
  rw [List.take_append_drop] at e
  have h1 := sumL_nonneg (l := l.drop m) fun x hx => h x (List.mem_of_mem_drop hx)
  omega
theorem partL_nonneg {ps : List Prize} {last : Int} (h : prOK last ps = true) : ∀ x ∈ partL ps, 0 ≤ x := by
  intro x hx
  obtain ⟨i, _, rfl⟩ := List.mem_map.1 hx
  exact (part_bounds42 h _).1
theorem part_total {ps : List Prize} (h : prOK 0 ps = true) (hs : sumA ps ≤ 1125899906842624) (i m : Nat) : sumL 0 (((partL ps).drop i).take m) ≤ 1125899906842624 := by
  have hn := partL_nonneg h
  have h1 := (sumL_take_le (l := (partL ps).drop i) (fun x hx => hn x (List.mem_of_mem_drop hx)) m).1
  have h2 := sumL_append ((partL ps).take i) ((partL ps).drop i)
  rw [List.take_append_drop] at h2
  have h3 := sumL_nonneg (l := (partL ps).take i) fun x hx => hn x (List.mem_of_mem_take hx)
  have h4 := partL_sum (Int.le_refl 0) h
  omega
end Go.Proofs.Ytoiiblkncbnlaaa
namespace Go.Proofs.Ytoiiblkncbnlaaa
end Go.Proofs.Ytoiiblkncbnlaaa
namespace Go.Proofs.Ytoiiblkncbnlaaa
theorem share_end {ps : List Place} {ns : List Int} {j : Nat} (h : ps.length ≤ j) : share (ps.drop j) (ns.drop j) = [] := by rw [List.drop_eq_nil_of_le h]; rfl
end Go.Proofs.Ytoiiblkncbnlaaa
namespace Go.Proofs.Ytoiiblkncbnlaaa
end Go.Proofs.Ytoiiblkncbnlaaa

/-
  Chapter 42: the league of a competition. Conditions: those of each theorem.
-/
set_option linter.unusedVariables false
set_option linter.unusedSimpArgs false
namespace Go.Proofs.Ytoiiblkncbnlaaa
open Go.DL
def tab0 : Tab := ⟨0, 0, []⟩
def sch0 : Sch := ⟨0, [], 0, 0, 0, 0⟩
def ofB (ts : List Tab) (ss : List Sch) (c : Int) : Bool := decide (0 ≤ idxT c ts 0 ∧ 0 ≤ idxS c ss 0)
def ofT (ts : List Tab) (ss : List Sch) (c : Int) : Tab := if ofB ts ss c then ts.getD (idxT c ts 0).toNat tab0 else tab0
def ofS (ts : List Tab) (ss : List Sch) (c : Int) : Sch := if ofB ts ss c then ss.getD (idxS c ss 0).toNat sch0 else sch0
theorem ofB_no {ts : List Tab} {ss : List Sch} {c : Int} (h : idxT c ts 0 < 0 ∨ idxS c ss 0 < 0) : ofB ts ss c = false := decide_eq_false (by omega)
theorem ofB_yes {ts : List Tab} {ss : List Sch} {c : Int} (h : 0 ≤ idxT c ts 0) (h2 : 0 ≤ idxS c ss 0) : ofB ts ss c = true := decide_eq_true ⟨h, h2⟩
theorem ofT_no {ts : List Tab} {ss : List Sch} {c : Int} (h : ofB ts ss c = false) : ofT ts ss c = tab0 := by rw [ofT, h]; rfl
theorem ofS_no {ts : List Tab} {ss : List Sch} {c : Int} (h : ofB ts ss c = false) : ofS ts ss c = sch0 := by rw [ofS, h]; rfl
theorem ofT_yes {ts : List Tab} {ss : List Sch} {c : Int} (h : ofB ts ss c = true) {x : Tab} (hx : ts[(idxT c ts 0).toNat]? = some x) : ofT ts ss c = x := by rw [ofT, if_pos h, List.getD, hx]; rfl
theorem ofS_yes {ts : List Tab} {ss : List Sch} {c : Int} (h : ofB ts ss c = true) {x : Sch} (hx : ss[(idxS c ss 0).toNat]? = some x) : ofS ts ss c = x := by rw [ofS, if_pos h, List.getD, hx]; rfl
theorem idxT_range (c : Int) : ∀ (l : List Tab) (k : Nat), (idxT c l k = -1) ∨ ((k : Int) ≤ idxT c l k ∧ idxT c l k < (k + l.length : Nat))
  | [], k => .inl rfl
  | x :: l, k => by
    rw [idxT]; split
    · exact .inr ⟨Int.le_refl _, by simp only [List.length_cons]; omega⟩
    · rcases idxT_range c l (k + 1) with h1 | ⟨h1, h2⟩
      · exact .inl h1
      · exact .inr ⟨by omega, by simp only [List.length_cons]; omega⟩
theorem idxS_range (c : Int) : ∀ (l : List Sch) (k : Nat), (idxS c l k = -1) ∨ ((k : Int) ≤ idxS c l k ∧ idxS c l k < (k + l.length : Nat))
  | [], k => .inl rfl
  | x :: l, k => by
    rw [idxS]; split
    · exact .inr ⟨Int.le_refl _, by simp only [List.length_cons]; omega⟩
    · rcases idxS_range c l (k + 1) with h1 | ⟨h1, h2⟩
      · exact .inl h1
      · exact .inr ⟨by omega, by simp only [List.length_cons]; omega⟩
theorem idxT_here {c : Int} {l : List Tab} {i : Nat} {x : Tab} (hx : l[i]? = some x) (h : x.c = c) : idxT c (l.drop i) i = i := by rw [drop_cons hx, idxT, if_pos h]
theorem idxS_here {c : Int} {l : List Sch} {i : Nat} {x : Sch} (hx : l[i]? = some x) (h : x.c = c) : idxS c (l.drop i) i = i := by rw [drop_cons hx, idxS, if_pos h]
theorem idxT_skip {c : Int} {l : List Tab} {i : Nat} {x : Tab} (hx : l[i]? = some x) (h : ¬ x.c = c) : idxT c (l.drop i) i = idxT c (l.drop (i + 1)) (i + 1) := by rw [drop_cons hx, idxT, if_neg h]
theorem idxS_skip {c : Int} {l : List Sch} {i : Nat} {x : Sch} (hx : l[i]? = some x) (h : ¬ x.c = c) : idxS c (l.drop i) i = idxS c (l.drop (i + 1)) (i + 1) := by rw [drop_cons hx, idxS, if_neg h]
theorem idxS_end {c : Int} {l : List Sch} {i : Nat} (h : l.length ≤ i) : idxS c (l.drop i) i = -1 := by rw [List.drop_eq_nil_of_le h]; rfl
theorem idxT_end {c : Int} {l : List Tab} {i : Nat} (h : l.length ≤ i) : idxT c (l.drop i) i = -1 := by rw [List.drop_eq_nil_of_le h]; rfl
end Go.Proofs.Ytoiiblkncbnlaaa

/-
  Chapter 42: the clubs of the next season, plainly. Conditions: those of each theorem.
-/
set_option linter.unusedVariables false
set_option linter.unusedSimpArgs false
namespace Go.Proofs.Ytoiiblkncbnlaaa
open Go.DL
/-- The error of a neighbouring league. -/
def sideE (ts : List Tab) (ss : List Sch) (t : Tab) (n c b : Int) : Int :=
  if n = -1 then 0 else if ofB ts ss n = false ∨ (ofT ts ss n).s ≠ t.s ∨ b ≠ c then 420 else movE (ofT ts ss n) (ofS ts ss n)
def aboveE (ts : List Tab) (ss : List Sch) (c : Int) : Int := sideE ts ss (ofT ts ss c) (ofS ts ss c).ab c (ofS ts ss (ofS ts ss c).ab).be
def belowE (ts : List Tab) (ss : List Sch) (c : Int) : Int := sideE ts ss (ofT ts ss c) (ofS ts ss c).be c (ofS ts ss (ofS ts ss c).be).ab
def aboveL (ts : List Tab) (ss : List Sch) (n : Int) : List Int := if n = -1 then [] else downM (ofT ts ss n) (ofS ts ss n)
def belowL (ts : List Tab) (ss : List Sch) (n : Int) : List Int := if n = -1 then [] else upM (ofT ts ss n) (ofS ts ss n)
def stays (t : Tab) (s : Sch) (x : Int) : Bool := !(upM t s).contains x && !(downM t s).contains x
def restL (t : Tab) (s : Sch) : List Int := (t.l.map clubOf).filter (stays t s)
def comeL (ts : List Tab) (ss : List Sch) (c : Int) : List Int := aboveL ts ss (ofS ts ss c).ab ++ belowL ts ss (ofS ts ss c).be ++ restL (ofT ts ss c) (ofS ts ss c)
def preE (ts : List Tab) (ss : List Sch) (c : Int) : Int :=
  if ofB ts ss c = false then 420 else if movE (ofT ts ss c) (ofS ts ss c) ≠ 0 then movE (ofT ts ss c) (ofS ts ss c) else if aboveE ts ss c ≠ 0 then aboveE ts ss c else belowE ts ss c
def nextE (ts : List Tab) (ss : List Sch) (c : Int) : Int :=
  if preE ts ss c ≠ 0 then preE ts ss c else if (comeL ts ss c).Nodup ∧ 2 ≤ (comeL ts ss c).length ∧ (comeL ts ss c).length ≤ 24 then 0 else 190
def nextL (ts : List Tab) (ss : List Sch) (c : Int) : List Int := if nextE ts ss c ≠ 0 then [] else srtI (comeL ts ss c)
theorem upM_length (t : Tab) (s : Sch) : (upM t s).length ≤ t.l.length := by
  unfold upM; split
  · simp
  · rw [clubsL, srtI_length, List.length_map, List.length_take]; omega
theorem downM_length (t : Tab) (s : Sch) : (downM t s).length ≤ t.l.length := by
  unfold downM; split
  · simp
  · rw [clubsL, srtI_length, List.length_map, List.length_drop]; omega
end Go.Proofs.Ytoiiblkncbnlaaa
namespace Go.Proofs.Ytoiiblkncbnlaaa
open Go.DL
section
variable {ts : List Tab} {ss : List Sch} {c n b : Int} {t : Tab}
theorem sideE_skip (h : n = -1) : sideE ts ss t n c b = 0 := by rw [sideE, if_pos h]
theorem sideE_420 (h : n ≠ -1) (h2 : ofB ts ss n = false ∨ (ofT ts ss n).s ≠ t.s ∨ b ≠ c) : sideE ts ss t n c b = 420 := by rw [sideE, if_neg h, if_pos h2]
theorem sideE_ok (h : n ≠ -1) (h1 : ofB ts ss n = true) (h2 : (ofT ts ss n).s = t.s) (h3 : b = c) : sideE ts ss t n c b = movE (ofT ts ss n) (ofS ts ss n) := by
  rw [sideE, if_neg h, if_neg]
  rintro (h4 | h4 | h4)
  · rw [h1] at h4; cases h4
  · exact h4 h2
  · exact h4 h3
theorem preE_1 (h : ofB ts ss c = false) : preE ts ss c = 420 := by rw [preE, if_pos h]
theorem preE_2 (h : ofB ts ss c = true) (h2 : movE (ofT ts ss c) (ofS ts ss c) ≠ 0) : preE ts ss c = movE (ofT ts ss c) (ofS ts ss c) := by rw [preE, if_neg (by rw [h]; simp), if_pos h2]
theorem preE_3 (h : ofB ts ss c = true) (h2 : movE (ofT ts ss c) (ofS ts ss c) = 0) (h3 : aboveE ts ss c ≠ 0) : preE ts ss c = aboveE ts ss c := by rw [preE, if_neg (by rw [h]; simp), if_neg (by omega), if_pos h3]
theorem preE_4 (h : ofB ts ss c = true) (h2 : movE (ofT ts ss c) (ofS ts ss c) = 0) (h3 : aboveE ts ss c = 0) : preE ts ss c = belowE ts ss c := by rw [preE, if_neg (by rw [h]; simp), if_neg (by omega), if_neg (by omega)]
theorem nextE_pre {e : Int} (h : preE ts ss c = e) (h0 : e ≠ 0) : nextE ts ss c = e := by rw [nextE, if_pos (by omega), h]
theorem nextE_190 (h : preE ts ss c = 0) (h2 : ¬ ((comeL ts ss c).Nodup ∧ 2 ≤ (comeL ts ss c).length ∧ (comeL ts ss c).length ≤ 24)) : nextE ts ss c = 190 := by rw [nextE, if_neg (by omega), if_neg h2]
theorem nextE_0 (h : preE ts ss c = 0) (h2 : (comeL ts ss c).Nodup ∧ 2 ≤ (comeL ts ss c).length ∧ (comeL ts ss c).length ≤ 24) : nextE ts ss c = 0 := by rw [nextE, if_neg (by omega), if_pos h2]
theorem nextL_nil {e : Int} (h : nextE ts ss c = e) (h0 : e ≠ 0) : nextL ts ss c = [] := by rw [nextL, if_pos (by omega)]
theorem nextL_ok (h : nextE ts ss c = 0) : nextL ts ss c = srtI (comeL ts ss c) := by rw [nextL, if_neg (by omega)]
end
end Go.Proofs.Ytoiiblkncbnlaaa
namespace Go.Proofs.Ytoiiblkncbnlaaa
open Go.DL
section
variable {ts : List Tab} {ss : List Sch} {c : Int}
theorem err_1 (h : ofB ts ss c = false) : nextE ts ss c = 420 := nextE_pre (preE_1 h) (by omega)
theorem err_2 (h : ofB ts ss c = true) (h2 : movE (ofT ts ss c) (ofS ts ss c) ≠ 0) : nextE ts ss c = movE (ofT ts ss c) (ofS ts ss c) := nextE_pre (preE_2 h h2) h2
theorem err_3 (h : ofB ts ss c = true) (h2 : movE (ofT ts ss c) (ofS ts ss c) = 0) (hn : (ofS ts ss c).ab ≠ -1)
    (hd : ofB ts ss (ofS ts ss c).ab = false ∨ (ofT ts ss (ofS ts ss c).ab).s ≠ (ofT ts ss c).s ∨ (ofS ts ss (ofS ts ss c).ab).be ≠ c) : nextE ts ss c = 420 := by
  have e : aboveE ts ss c = 420 := sideE_420 hn hd
  exact nextE_pre ((preE_3 h h2 (by omega)).trans e) (by omega)
theorem err_4 (h : ofB ts ss c = true) (h2 : movE (ofT ts ss c) (ofS ts ss c) = 0) (hn : (ofS ts ss c).ab ≠ -1) (h3 : ofB ts ss (ofS ts ss c).ab = true) (h4 : (ofT ts ss (ofS ts ss c).ab).s = (ofT ts ss c).s) (h5 : (ofS ts ss (ofS ts ss c).ab).be = c)
    (hm : movE (ofT ts ss (ofS ts ss c).ab) (ofS ts ss (ofS ts ss c).ab) ≠ 0) : nextE ts ss c = movE (ofT ts ss (ofS ts ss c).ab) (ofS ts ss (ofS ts ss c).ab) := by
  have e : aboveE ts ss c = _ := sideE_ok hn h3 h4 h5
  exact nextE_pre ((preE_3 h h2 (by omega)).trans e) hm
theorem err_5 (h : ofB ts ss c = true) (h2 : movE (ofT ts ss c) (ofS ts ss c) = 0) (ha : aboveE ts ss c = 0) (hn : (ofS ts ss c).be ≠ -1)
    (hd : ofB ts ss (ofS ts ss c).be = false ∨ (ofT ts ss (ofS ts ss c).be).s ≠ (ofT ts ss c).s ∨ (ofS ts ss (ofS ts ss c).be).ab ≠ c) : nextE ts ss c = 420 := by
  have e : belowE ts ss c = 420 := sideE_420 hn hd
  exact nextE_pre ((preE_4 h h2 ha).trans e) (by omega)
theorem err_6 (h : ofB ts ss c = true) (h2 : movE (ofT ts ss c) (ofS ts ss c) = 0) (ha : aboveE ts ss c = 0) (hn : (ofS ts ss c).be ≠ -1) (h3 : ofB ts ss (ofS ts ss c).be = true) (h4 : (ofT ts ss (ofS ts ss c).be).s = (ofT ts ss c).s) (h5 : (ofS ts ss (ofS ts ss c).be).ab = c)
    (hm : movE (ofT ts ss (ofS ts ss c).be) (ofS ts ss (ofS ts ss c).be) ≠ 0) : nextE ts ss c = movE (ofT ts ss (ofS ts ss c).be) (ofS ts ss (ofS ts ss c).be) := by
  have e : belowE ts ss c = _ := sideE_ok hn h3 h4 h5
  exact nextE_pre ((preE_4 h h2 ha).trans e) hm
theorem ofT_len (h : ∀ t ∈ ts, t.l.length ≤ 30) (n : Int) : (ofT ts ss n).l.length ≤ 30 := by
  unfold ofT; split
  · rw [List.getD]
    cases hg : ts[(idxT n ts 0).toNat]? with
    | none => simp [tab0]
    | some x => exact h x (List.mem_of_getElem? hg)
  · simp [tab0]
theorem ofS_len (h : ∀ s ∈ ss, s.p.length ≤ 30) (n : Int) : (ofS ts ss n).p.length ≤ 30 := by
  unfold ofS; split
  · rw [List.getD]
    cases hg : ss[(idxS n ss 0).toNat]? with
    | none => simp [sch0]
    | some x => exact h x (List.mem_of_getElem? hg)
  · simp [sch0]
end
end Go.Proofs.Ytoiiblkncbnlaaa

/-
  Chapter 42: small enough. Conditions: those of each theorem.
-/
set_option linter.unusedVariables false
set_option linter.unusedSimpArgs false
namespace Go.Proofs.Ytoiiblkncbnlaaa
open Go.DL
def Few (ts : List Tab) (ss : List Sch) : Prop := ts.length ≤ 5 ∧ ss.length ≤ 5 ∧ (∀ t ∈ ts, t.l.length ≤ 30) ∧ (∀ s ∈ ss, s.p.length ≤ 30)
instance (ts : List Tab) (ss : List Sch) : Decidable (Few ts ss) := by unfold Few; infer_instance
theorem all_snoc {α : Type} {l : List α} {p : α → Prop} {k : Nat} {x : α} (h : ∀ y ∈ l.take k, p y) (hx : l[k]? = some x) (hp : p x) : ∀ y ∈ l.take (k + 1), p y := by
  rw [take_snoc hx]
  intro y hy
  rcases List.mem_append.1 hy with hy | hy
  · exact h y hy
  · simp at hy; subst hy; exact hp
end Go.Proofs.Ytoiiblkncbnlaaa

/-
  Chapter 42: tables of tied clubs. Conditions: those of each theorem.
-/
set_option linter.unusedVariables false
set_option linter.unusedSimpArgs false
namespace Go.Proofs.Ytoiiblkncbnlaaa
open Go.DL
def tied (x : Int) : Place := ⟨1, 0, [], ⟨x, 0, 0, 0, 0, 0, 0, 0, 0, 0, 0⟩⟩
def levelT (c : Int) (cs : List Int) : Tab := ⟨0, c, cs.map tied⟩
theorem level_step {cs : List Int} {o : List Place} {k : Nat} {x : Int} (h : o = (cs.take k).map tied) (hx : cs[k]? = some x) : o ++ [(⟨1, 0, [], ⟨x, 0, 0, 0, 0, 0, 0, 0, 0, 0, 0⟩⟩ : Place)] = (cs.take (k + 1)).map tied := by
  rw [take_snoc hx, List.map_append, h]; rfl
end Go.Proofs.Ytoiiblkncbnlaaa

/-
  Chapter 42: equal parts, and what each rank is paid. Conditions: those of each theorem.
-/
set_option linter.unusedVariables false
set_option linter.unusedSimpArgs false
namespace Go.Proofs.Ytoiiblkncbnlaaa
open Go.DL
set_option maxHeartbeats 4000000
theorem splitOK_ones {a : Int} {n : Nat} (ha : 0 ≤ a) (ha2 : a ≤ 1125899906842624) (h1 : 1 ≤ n) (h2 : n ≤ 256) : splitOK a (onesL n) :=
  ⟨ha, ha2, fun x hx => by have := List.eq_of_mem_replicate hx; omega, by rw [onesL_length]; exact h2, by rw [sumL_ones]; omega⟩
/-- One more than half of the ones stands; the doubling goes on. -/
theorem repeat_eq {n : Int} (h1 : 1 ≤ n) (h2 : n ≤ 256) : g_slices_Repeat_Lint_int [(1 : Int)] n = some (onesL n.toNat) := by
  refine WP.eq ?_
  obtain ⟨m, rfl⟩ : ∃ m : Nat, n = (m : Int) := ⟨n.toNat, by omega⟩
  unfold g_slices_Repeat_Lint_int
  have hw1 : IntKind.u64.wrap ((([(1 : Int)] : List Int).length : Nat) : Int) = 1 := by decide
  have hw2 : IntKind.u64.wrap (m : Int) = (m : Int) := by
    unfold IntKind.wrap; simp [IntKind.bits]; omega
  refine WP.iteD (fun h => absurd h (by omega)) (fun _ => ?_)
  refine WP.bd (r := (0, (m : Int))) ?_ ?_
  · rw [hw1, hw2]
    unfold g_bits_Mul
    rw [if_pos (by omega)]
    congr 2 <;> omega
  have hrep : ∀ k l, k ≤ m → l = onesL k ++ List.replicate (m - k) 0 → l.length = m := fun k l hk hl => by rw [hl]; simp [onesL]; omega
  have j1 : WP (g_slices_Repeat_Lint_int_j1 (0, (m : Int)) [1] false) (fun x => x = onesL (m : Int).toNat) := by
    unfold g_slices_Repeat_Lint_int_j1
    (first | with_reducible (first | refine WP.iteT ?_ | refine WP.iteF ?_ | refine WP.iteNb ?_ | refine WP.iteD (fun _ => ?_) (fun _ => ?_) | refine WP.iteE (fun _ => ?_) (fun _ => ?_) | refine WP.iteN (fun _ => ?_) (fun _ => ?_) | refine WP.iteB (fun _ => ?_) (fun _ => ?_)) | (with_reducible refine WP.ckI ?_ ?_; · omega) | (with_reducible refine WP.gn ?_ (fun _ _ => ?_); · omega) | (with_reducible refine WP.gt ?_ (fun _ _ => ?_); · omega) | with_reducible (first | refine WP.up ?_ | refine WP.letO ?_ | refine WP.ret ?_)); (first | with_reducible (first | refine WP.iteT ?_ | refine WP.iteF ?_ | refine WP.iteNb ?_ | refine WP.iteD (fun _ => ?_) (fun _ => ?_) | refine WP.iteE (fun _ => ?_) (fun _ => ?_) | refine WP.iteN (fun _ => ?_) (fun _ => ?_) | refine WP.iteB (fun _ => ?_) (fun _ => ?_)) | (with_reducible refine WP.ckI ?_ ?_; · omega) | (with_reducible refine WP.gn ?_ (fun _ _ => ?_); · omega) | (with_reducible refine WP.gt ?_ (fun _ _ => ?_); · omega) | with_reducible (first | refine WP.up ?_ | refine WP.letO ?_ | refine WP.ret ?_))
    refine WP.ck (by dsimp only; omega) ?_
    refine WP.ck (by simp) ?_
    refine WP.letO ?_
    refine WP.loop (fun v => 1 ≤ v.1 ∧ v.1 ≤ m ∧ v.2 = onesL v.1 ++ List.replicate (m - v.1) 0) (fun v => m - v.1) ?_ ?_
    · rintro ⟨k, l⟩ ⟨hk, hk2, hv⟩
      dsimp only at hk hk2 hv ⊢
      have hlen := hrep k l hk2 hv
      simp only [g_slices_Repeat_Lint_int_l3]
      rw [hlen]
      refine WP.iteD (fun hlt => ?_) (fun hlt => ?_)
      · refine WP.sbp (by simp; omega) ?_
        refine WP.sbp (by simp; omega) ?_
        refine WP.ck (by simp; omega) ?_
        refine WP.ck (by simp; omega) ?_
        refine WP.letO ?_
        have e1 : ((some (k : Int)).getD 0).toNat = k := by simp
        have e2 : (((none : Option Int).getD ((m : Nat) : Int)).toNat - k) = m - k := by simp
        have e3 : (((none : Option Int).getD 0).toNat) = 0 := by simp
        have e4 : ((some (k : Int)).getD ((m : Nat) : Int)).toNat - 0 = k := by simp
        simp only [e1, e2, e3, e4]
        have hk3 : k < m := by omega
        obtain ⟨j, hj⟩ : ∃ j, j = Nat.min k (m - k) := ⟨_, rfl⟩
        have hj1 : 1 ≤ j := by rw [hj, show Nat.min k (m - k) = min k (m - k) from rfl]; omega
        have hj2 : j ≤ k := by rw [hj, show Nat.min k (m - k) = min k (m - k) from rfl]; omega
        have hj3 : j ≤ m - k := by rw [hj, show Nat.min k (m - k) = min k (m - k) from rfl]; omega
        have t1 : l.take k = onesL k := by rw [hv, List.take_append_of_le_length (by simp [onesL])]; simp [onesL]
        have t2 : ((l.drop 0).take k).length = k := by rw [List.drop_zero, t1, onesL_length]
        have t3 : l.drop (k + j) = List.replicate (m - (k + j)) 0 := by
          rw [hv, List.drop_append, List.drop_eq_nil_of_le (by simp [onesL]), onesL_length, List.nil_append, List.drop_replicate]
          congr 1; omega
        rw [t2, ← hj, List.drop_zero, t1, t3]
        (repeat' (first | with_reducible (first | refine WP.iteT ?_ | refine WP.iteF ?_ | refine WP.iteNb ?_ | refine WP.iteD (fun _ => ?_) (fun _ => ?_) | refine WP.iteE (fun _ => ?_) (fun _ => ?_) | refine WP.iteN (fun _ => ?_) (fun _ => ?_) | refine WP.iteB (fun _ => ?_) (fun _ => ?_)) | (with_reducible refine WP.ckI ?_ ?_; · omega) | (with_reducible refine WP.gn ?_ (fun _ _ => ?_); · omega) | (with_reducible refine WP.gt ?_ (fun _ _ => ?_); · omega) | with_reducible (first | refine WP.up ?_ | refine WP.letO ?_ | refine WP.ret ?_)))
        refine ⟨⟨by dsimp only; omega, by dsimp only; omega, ?_⟩, by dsimp only; omega⟩
        dsimp only
        congr 1
        unfold onesL
        rw [List.take_replicate, Nat.min_eq_left hj2, List.replicate_append_replicate]
      · unfold g_slices_Repeat_Lint_int_j2
        (repeat' (first | with_reducible (first | refine WP.iteT ?_ | refine WP.iteF ?_ | refine WP.iteNb ?_ | refine WP.iteD (fun _ => ?_) (fun _ => ?_) | refine WP.iteE (fun _ => ?_) (fun _ => ?_) | refine WP.iteN (fun _ => ?_) (fun _ => ?_) | refine WP.iteB (fun _ => ?_) (fun _ => ?_)) | (with_reducible refine WP.ckI ?_ ?_; · omega) | (with_reducible refine WP.gn ?_ (fun _ _ => ?_); · omega) | (with_reducible refine WP.gt ?_ (fun _ _ => ?_); · omega) | with_reducible (first | refine WP.up ?_ | refine WP.letO ?_ | refine WP.ret ?_)))
        show l = _
        rw [hv, show m - k = 0 by omega]
        simp; congr 1; omega
    · have e0 : ((0 : Int), (m : Int)).2.toNat = m := by simp
      have e1 : Nat.min ([(1 : Int)] : List Int).length (List.replicate ((0 : Int), (m : Int)).2.toNat (0 : Int)).length = 1 := by
        rw [e0, List.length_replicate, List.length_singleton]; exact Nat.min_eq_left (by omega)
      rw [e1, e0]
      refine ⟨by omega, by dsimp only; omega, ?_⟩
      simp [onesL]
  (repeat' (first | with_reducible (first | refine WP.iteT ?_ | refine WP.iteF ?_ | refine WP.iteNb ?_ | refine WP.iteD (fun _ => ?_) (fun _ => ?_) | refine WP.iteE (fun _ => ?_) (fun _ => ?_) | refine WP.iteN (fun _ => ?_) (fun _ => ?_) | refine WP.iteB (fun _ => ?_) (fun _ => ?_)) | (with_reducible refine WP.ckI ?_ ?_; · omega) | (with_reducible refine WP.gn ?_ (fun _ _ => ?_); · omega) | (with_reducible refine WP.gt ?_ (fun _ _ => ?_); · omega) | with_reducible (first | refine WP.up ?_ | refine WP.letO ?_ | refine WP.ret ?_)))
  · rename_i h; exact absurd h (by simp)
  · have : decide (((0 : Int), (m : Int)).2 > 9223372036854775807) = false := by simp; omega
    rw [this]; exact j1
theorem equal_eq {a n : Int} (ha : 0 ≤ a) (ha2 : a ≤ 1125899906842624) (h1 : 1 ≤ n) (h2 : n ≤ 256) : g_prizes_equal a n = some (eqL a n.toNat) := by
  refine WP.eq ?_
  unfold g_prizes_equal
  refine WP.bd (repeat_eq h1 h2) ?_
  refine WP.bd (r := (eqL a n.toNat, 0)) ?_ (WP.ret rfl)
  unfold g_money_Split
  rw [if_pos (splitOK_ones ha ha2 (by omega) (by omega))]; rfl
theorem parts_eq {s : Sch} (hp : prOK 0 s.p = true) (hl : s.p.length ≤ 1000) : g_prizes_parts s = some (partL s.p) := by
  refine WP.eq ?_
  unfold g_prizes_parts
  refine WP.ck (by omega) ?_
  refine WP.loop (fun v => v.1 ≤ s.p.length ∧ v.2.length = 25 ∧ v.2 = fillL (s.p.take v.1) (List.replicate 25 0)) (fun v => s.p.length - v.1) ?_ ⟨by simp, by simp, by simp [fillL]⟩
  rintro ⟨k, l⟩ ⟨hk, h25, hv⟩
  dsimp only at hk h25 hv ⊢
  simp only [g_prizes_parts_l2]
  refine WP.iteD (fun hlt => ?_) (fun hlt => ?_)
  · obtain ⟨x, hx⟩ : ∃ x, s.p[k]? = some x := ⟨_, List.getElem?_eq_getElem (by omega)⟩
    rw [gn_some hx]
    obtain ⟨p1, p2, p3, p4, p5⟩ := prOK_mem hp x (List.mem_of_getElem? hx)
    (first | with_reducible (first | refine WP.iteT ?_ | refine WP.iteF ?_ | refine WP.iteNb ?_ | refine WP.iteD (fun _ => ?_) (fun _ => ?_) | refine WP.iteE (fun _ => ?_) (fun _ => ?_) | refine WP.iteN (fun _ => ?_) (fun _ => ?_) | refine WP.iteB (fun _ => ?_) (fun _ => ?_)) | (with_reducible refine WP.ckI ?_ ?_; · omega) | (with_reducible refine WP.gn ?_ (fun _ _ => ?_); · omega) | (with_reducible refine WP.gt ?_ (fun _ _ => ?_); · omega) | with_reducible (first | refine WP.up ?_ | refine WP.letO ?_ | refine WP.ret ?_)); (first | with_reducible (first | refine WP.iteT ?_ | refine WP.iteF ?_ | refine WP.iteNb ?_ | refine WP.iteD (fun _ => ?_) (fun _ => ?_) | refine WP.iteE (fun _ => ?_) (fun _ => ?_) | refine WP.iteN (fun _ => ?_) (fun _ => ?_) | refine WP.iteB (fun _ => ?_) (fun _ => ?_)) | (with_reducible refine WP.ckI ?_ ?_; · omega) | (with_reducible refine WP.gn ?_ (fun _ _ => ?_); · omega) | (with_reducible refine WP.gt ?_ (fun _ _ => ?_); · omega) | with_reducible (first | refine WP.up ?_ | refine WP.letO ?_ | refine WP.ret ?_))
    refine WP.bd (equal_eq (by omega) (by omega) (by omega) (by omega)) ?_
    have hel : (eqL x.a (x.t - x.f + 1).toNat).length = (x.t - x.f + 1).toNat := eqL_length _ _
    refine WP.loop (fun v => v.1 ≤ (x.t - x.f + 1).toNat ∧ v.2 = putAt l x.f.toNat ((eqL x.a (x.t - x.f + 1).toNat).take v.1)) (fun v => (x.t - x.f + 1).toNat - v.1) ?_ ⟨by simp, by simp [putAt_nil]⟩
    rintro ⟨j, l'⟩ ⟨hj, hv'⟩
    dsimp only at hj hv' ⊢
    simp only [g_prizes_parts_l4]
    refine WP.iteD (fun hlt2 => ?_) (fun hlt2 => ?_)
    · obtain ⟨y, hy⟩ : ∃ y, (eqL x.a (x.t - x.f + 1).toNat)[j]? = some y := ⟨_, List.getElem?_eq_getElem (by omega)⟩
      rw [gn_some hy]
      have hjl : ((eqL x.a (x.t - x.f + 1).toNat).take j).length = j := by rw [List.length_take, hel]; omega
      have hl' : l'.length = 25 := by rw [hv', putAt_length (by rw [hjl]; omega)]; exact h25
      (first | with_reducible (first | refine WP.iteT ?_ | refine WP.iteF ?_ | refine WP.iteNb ?_ | refine WP.iteD (fun _ => ?_) (fun _ => ?_) | refine WP.iteE (fun _ => ?_) (fun _ => ?_) | refine WP.iteN (fun _ => ?_) (fun _ => ?_) | refine WP.iteB (fun _ => ?_) (fun _ => ?_)) | (with_reducible refine WP.ckI ?_ ?_; · omega) | (with_reducible refine WP.gn ?_ (fun _ _ => ?_); · omega) | (with_reducible refine WP.gt ?_ (fun _ _ => ?_); · omega) | with_reducible (first | refine WP.up ?_ | refine WP.letO ?_ | refine WP.ret ?_))
      refine WP.gt (by omega) fun z hz => ?_
      (repeat' (first | with_reducible (first | refine WP.iteT ?_ | refine WP.iteF ?_ | refine WP.iteNb ?_ | refine WP.iteD (fun _ => ?_) (fun _ => ?_) | refine WP.iteE (fun _ => ?_) (fun _ => ?_) | refine WP.iteN (fun _ => ?_) (fun _ => ?_) | refine WP.iteB (fun _ => ?_) (fun _ => ?_)) | (with_reducible refine WP.ckI ?_ ?_; · omega) | (with_reducible refine WP.gn ?_ (fun _ _ => ?_); · omega) | (with_reducible refine WP.gt ?_ (fun _ _ => ?_); · omega) | with_reducible (first | refine WP.up ?_ | refine WP.letO ?_ | refine WP.ret ?_)))
      refine ⟨⟨by dsimp only; omega, ?_⟩, by dsimp only; omega⟩
      dsimp only
      rw [hv', show (x.f + (j : Int)).toNat = x.f.toNat + ((eqL x.a (x.t - x.f + 1).toNat).take j).length by rw [hjl]; omega, putAt_snoc (by rw [hjl]; omega), take_snoc hy]
    · unfold g_prizes_parts_j3
      rw [List.take_of_length_le (by omega)] at hv'
      (repeat' (first | with_reducible (first | refine WP.iteT ?_ | refine WP.iteF ?_ | refine WP.iteNb ?_ | refine WP.iteD (fun _ => ?_) (fun _ => ?_) | refine WP.iteE (fun _ => ?_) (fun _ => ?_) | refine WP.iteN (fun _ => ?_) (fun _ => ?_) | refine WP.iteB (fun _ => ?_) (fun _ => ?_)) | (with_reducible refine WP.ckI ?_ ?_; · omega) | (with_reducible refine WP.gn ?_ (fun _ _ => ?_); · omega) | (with_reducible refine WP.gt ?_ (fun _ _ => ?_); · omega) | with_reducible (first | refine WP.up ?_ | refine WP.letO ?_ | refine WP.ret ?_)))
      refine ⟨⟨by dsimp only; omega, ?_, ?_⟩, by dsimp only; omega⟩
      · dsimp only; rw [hv', putAt_length (by rw [hel]; omega)]; exact h25
      · dsimp only; rw [take_snoc hx, hv', hv]; simp [fillL, List.foldl_append]
  · unfold g_prizes_parts_j1
    (repeat' (first | with_reducible (first | refine WP.iteT ?_ | refine WP.iteF ?_ | refine WP.iteNb ?_ | refine WP.iteD (fun _ => ?_) (fun _ => ?_) | refine WP.iteE (fun _ => ?_) (fun _ => ?_) | refine WP.iteN (fun _ => ?_) (fun _ => ?_) | refine WP.iteB (fun _ => ?_) (fun _ => ?_)) | (with_reducible refine WP.ckI ?_ ?_; · omega) | (with_reducible refine WP.gn ?_ (fun _ _ => ?_); · omega) | (with_reducible refine WP.gt ?_ (fun _ _ => ?_); · omega) | with_reducible (first | refine WP.up ?_ | refine WP.letO ?_ | refine WP.ret ?_)))
    refine WP.sb (by simp; omega) ?_
    refine WP.ret ?_
    rw [List.take_of_length_le (by omega)] at hv
    show subList l (some 1) none = partL s.p
    rw [hv, ← fill_partL hp]; rfl
end Go.Proofs.Ytoiiblkncbnlaaa

/-
  Chapter 42: the program's prizes. Conditions: those of each theorem.
-/
set_option linter.unusedVariables false
set_option linter.unusedSimpArgs false
namespace Go.Proofs.Ytoiiblkncbnlaaa
open Go.DL
set_option maxHeartbeats 4000000
theorem grpGo_flat (l : List Place) : ∀ (g : List Place) (k : Int), g ≠ [] → (grpGo g k l).flatten = g ++ l ∧ ∀ x ∈ grpGo g k l, x ≠ [] := by
  induction l with
  | nil => intro g k h; simp [grpGo, h]
  | cons p l ih =>
    intro g k h
    rw [grpGo]
    split
    · have := ih (g ++ [p]) k (by simp)
      exact ⟨by rw [this.1]; simp, this.2⟩
    · have := ih [p] p.k (by simp)
      refine ⟨by rw [List.flatten_cons, this.1]; simp, fun x hx => ?_⟩
      rcases List.mem_cons.1 hx with rfl | h2
      · exact h
      · exact this.2 x h2
theorem grp_flat (l : List Place) : (grp l).flatten = l ∧ ∀ x ∈ grp l, x ≠ [] := by
  cases l with
  | nil => simp [grp]
  | cons p l => have := grpGo_flat l [p] p.k (by simp); exact ⟨by rw [grp, this.1]; rfl, this.2⟩
theorem share_sub : ∀ (ps : List Place) (ns : List Int), ((share ps ns).map (·.c)).Sublist (ps.map clubOf)
  | [], _ => by simp [share]
  | p :: ps, [] => by simp [share]
  | p :: ps, n :: ns => by
    rw [share]
    split
    · exact (share_sub ps ns).cons_cons _
    · exact (share_sub ps ns).cons _
theorem payG_sub (gs : List (List Place)) : ∀ r : List Int, ((payG r gs).map (·.c)).Sublist (gs.flatten.map clubOf) := by
  induction gs with
  | nil => intro r; simp [payG]
  | cons g gs ih =>
    intro r
    rw [payG, List.map_append, List.flatten_cons, List.map_append]
    exact (share_sub _ _).append (ih _)
theorem payU_sub (t : Tab) (s : Sch) : ((payU t s).map (·.c)).Sublist (t.l.map clubOf) := by
  have := payG_sub (grp t.l) (partL s.p)
  rwa [(grp_flat t.l).1] at this
theorem plOK_nodup : ∀ (l : List Place) (k : Nat) (q : Place) (seen : List Int), plOK k q seen l = true → (l.map clubOf).Nodup ∧ ∀ x ∈ l.map clubOf, x ∉ seen
  | [], _, _, _, _ => by simp
  | p :: l, k, q, seen, h => by
    rw [plOK] at h
    split at h
    · rename_i hp
      obtain ⟨h1, h2⟩ := plOK_nodup l (k + 1) p _ h
      rw [List.map_cons, List.nodup_cons]
      refine ⟨⟨fun hc => ?_, h1⟩, fun x hx => ?_⟩
      · have := h2 _ hc
        simp [clubOf] at this
      · rcases List.mem_cons.1 hx with rfl | h3
        · exact hp.2.2.2
        · have := h2 _ h3
          simp at this
          exact this.1
    · cases h
theorem chk_nodup {t : Tab} (h : chkT t = 0) : (t.l.map clubOf).Nodup := by
  rcases chkT_cases t with h1 | ⟨_, _, h1⟩
  · omega
  · exact (plOK_nodup _ _ _ _ h1).1
theorem payU_nodup {t : Tab} {s : Sch} (h : chkT t = 0) : ((payU t s).map (·.c)).Nodup := (payU_sub t s).nodup (chk_nodup h)
theorem insP_perm (p : Pay) (l : List Pay) : (insP p l).Perm (p :: l) := by
  induction l with
  | nil => exact List.Perm.refl _
  | cons q l ih =>
    rw [insP]; split
    · exact (ih.cons q).trans (List.Perm.swap p q l)
    · exact List.Perm.refl _
theorem insP_sorted {p : Pay} {l : List Pay} (h : l.Pairwise fun a b => ¬ b.c < a.c) : (insP p l).Pairwise fun a b => ¬ b.c < a.c := by
  induction l with
  | nil => simp [insP]
  | cons q l ih =>
    rw [List.pairwise_cons] at h
    rw [insP]; split
    · rename_i hq
      rw [List.pairwise_cons]
      refine ⟨fun x hx => ?_, ih h.2⟩
      rcases List.mem_cons.1 ((insP_perm p l).mem_iff.1 hx) with rfl | h2
      · omega
      · exact h.1 x h2
    · rename_i hq
      rw [List.pairwise_cons]
      refine ⟨fun x hx => ?_, List.pairwise_cons.2 h⟩
      rcases List.mem_cons.1 hx with rfl | h2
      · exact hq
      · have := h.1 x h2; omega
theorem insF_sorted (l : List Pay) : ∀ o : List Pay, (o.Pairwise fun a b => ¬ b.c < a.c) → (insF o l).Perm (o ++ l) ∧ (insF o l).Pairwise fun a b => ¬ b.c < a.c := by
  induction l with
  | nil => intro o h; exact ⟨by simp [insF], h⟩
  | cons p l ih =>
    intro o h
    have := ih (insP p o) (insP_sorted h)
    refine ⟨?_, this.2⟩
    refine this.1.trans ?_
    exact ((insP_perm p o).append_right l).trans (List.perm_middle.symm)
theorem insAll_eq {l : List Pay} (h : (l.map (·.c)).Nodup) : insAll l = srtP l := by
  have := insF_sorted l [] List.Pairwise.nil
  exact sortP_uniq ⟨by have h1 := this.1; rw [List.nil_append] at h1; exact h1, this.2⟩ h
end Go.Proofs.Ytoiiblkncbnlaaa

/-
  Chapter 42: what the program's prizes compute. Conditions: those of each theorem.
-/
set_option linter.unusedVariables false
set_option linter.unusedSimpArgs false
namespace Go.Proofs.Ytoiiblkncbnlaaa
open Go.DL
set_option maxHeartbeats 4000000
theorem len0_eq : g_math_bits_Len 0 = some 0 := by
  refine WP.eq ?_
  unfold g_math_bits_Len
  refine WP.bd (r := 0) ?_ (WP.ret rfl)
  refine WP.eq ?_
  unfold g_math_bits_Len64 g_math_bits_Len64_j1 g_math_bits_Len64_j2 g_math_bits_Len64_j3
  refine WP.iteD (fun h => absurd h (by omega)) (fun _ => ?_)
  refine WP.iteD (fun h => absurd h (by omega)) (fun _ => ?_)
  refine WP.iteD (fun h => absurd h (by omega)) (fun _ => ?_)
  rw [gt_some (x := 0) (by rfl) (by decide)]
  refine WP.ckI (by decide) ?_
  refine WP.ckI (by decide) (WP.ret ?_)
  decide
theorem srtP_nil : srtP [] = [] := by simp [srtP]
theorem prizes_j1_eq {l : List Pay} (hn : (l.map (·.c)).Nodup) (hl : l.length ≤ 1000) : g_prizes_Prizes_j1 l = some (srtP l, 0) := by
  unfold g_prizes_Prizes_j1
  by_cases h : l = []
  · rw [if_pos h, len0_eq, bd_some]
    have h5 : (g_prizes_Prizes_j5) = some (.inr ([], 0)) := rfl
    have h6 : loopO g_prizes_Prizes_l6 () = some (.inr ([], 0)) := loopO_inr (by rw [g_prizes_Prizes_l6, h5]; rfl)
    rw [loopO_inr (r := ([], 0)) (by rw [g_prizes_Prizes_l4]; exact h6), h, srtP_nil]
  · rw [if_neg h, ck_pos hn, ck_pos (by omega)]; rfl
section
variable {t : Tab} {s : Sch} {gs : List (List Place)} {U : List Pay}
theorem prizes_l11 {x : List Place} {ns rest : List Int} {k : Nat} {l : List Pay} {K : ((List Int) × Nat × (List Pay)) ⊕ ((List Pay) × Int) → Prop} (hx : ns.length = x.length) (hl : (l ++ share x ns).length ≤ 1000) (hk : k ≤ 1000) (hx2 : x.length ≤ 1000)
    (h : K (.inl (rest, k + 1, l ++ share x ns))) : WP (loopO (g_prizes_Prizes_l11 ns x rest gs k) (0, l)) K := by
  refine WP.loop (fun v => v.1 ≤ x.length ∧ v.2 ++ share (x.drop v.1) (ns.drop v.1) = l ++ share x ns) (fun v => x.length - v.1) ?_ ⟨by simp, by simp⟩
  rintro ⟨j, o⟩ ⟨hj, iv⟩
  dsimp only at hj iv ⊢
  simp only [g_prizes_Prizes_l11]
  refine WP.iteD (fun hlt => ?_) (fun hlt => ?_)
  · obtain ⟨n, hn⟩ : ∃ n, ns[j]? = some n := ⟨_, List.getElem?_eq_getElem (by omega)⟩
    obtain ⟨y, hy⟩ : ∃ y, x[j]? = some y := ⟨_, List.getElem?_eq_getElem (by omega)⟩
    rw [gn_some hn, gn_some hy]
    refine WP.iteD (fun hp => ?_) (fun hp => ?_)
    · rw [share_yes hy hn hp] at iv
      have hlen : o.length + 1 ≤ 1000 := by
        rw [← iv] at hl
        simp only [List.length_append, List.length_cons] at hl; omega
      refine WP.ck (by simp only [List.length_cons, List.length_nil]; omega) ?_
      unfold g_prizes_Prizes_j12
      (repeat' (first | with_reducible (first | refine WP.iteT ?_ | refine WP.iteF ?_ | refine WP.iteNb ?_ | refine WP.iteD (fun _ => ?_) (fun _ => ?_) | refine WP.iteE (fun _ => ?_) (fun _ => ?_) | refine WP.iteN (fun _ => ?_) (fun _ => ?_) | refine WP.iteB (fun _ => ?_) (fun _ => ?_)) | (with_reducible refine WP.ckI ?_ ?_; · omega) | (with_reducible refine WP.gn ?_ (fun _ _ => ?_); · omega) | (with_reducible refine WP.gt ?_ (fun _ _ => ?_); · omega) | with_reducible (first | refine WP.up ?_ | refine WP.letO ?_ | refine WP.ret ?_)))
      exact ⟨⟨by dsimp only; omega, by dsimp only; rw [← iv]; simp⟩, by dsimp only; omega⟩
    · rw [share_no hy hn hp] at iv
      unfold g_prizes_Prizes_j12
      (repeat' (first | with_reducible (first | refine WP.iteT ?_ | refine WP.iteF ?_ | refine WP.iteNb ?_ | refine WP.iteD (fun _ => ?_) (fun _ => ?_) | refine WP.iteE (fun _ => ?_) (fun _ => ?_) | refine WP.iteN (fun _ => ?_) (fun _ => ?_) | refine WP.iteB (fun _ => ?_) (fun _ => ?_)) | (with_reducible refine WP.ckI ?_ ?_; · omega) | (with_reducible refine WP.gn ?_ (fun _ _ => ?_); · omega) | (with_reducible refine WP.gt ?_ (fun _ _ => ?_); · omega) | with_reducible (first | refine WP.up ?_ | refine WP.letO ?_ | refine WP.ret ?_)))
      exact ⟨⟨by dsimp only; omega, iv⟩, by dsimp only; omega⟩
  · rw [share_end (by omega), List.append_nil] at iv
    unfold g_prizes_Prizes_j9
    (repeat' (first | with_reducible (first | refine WP.iteT ?_ | refine WP.iteF ?_ | refine WP.iteNb ?_ | refine WP.iteD (fun _ => ?_) (fun _ => ?_) | refine WP.iteE (fun _ => ?_) (fun _ => ?_) | refine WP.iteN (fun _ => ?_) (fun _ => ?_) | refine WP.iteB (fun _ => ?_) (fun _ => ?_)) | (with_reducible refine WP.ckI ?_ ?_; · omega) | (with_reducible refine WP.gn ?_ (fun _ _ => ?_); · omega) | (with_reducible refine WP.gt ?_ (fun _ _ => ?_); · omega) | with_reducible (first | refine WP.up ?_ | refine WP.letO ?_ | refine WP.ret ?_)))
    rw [iv]; exact h
theorem prizes_sum {x : List Place} {rest : List Int} {k : Nat} {l : List Pay} {K : ((List Int) × Nat × (List Pay)) ⊕ ((List Pay) × Int) → Prop} (hr : ∀ m, 0 ≤ sumL 0 (rest.take m) ∧ sumL 0 (rest.take m) ≤ 1125899906842624) (hx : x.length ≤ rest.length) (hx1 : 1 ≤ x.length) (hx2 : x.length ≤ 256) (hl : (l ++ share x (eqL (sumL 0 (rest.take x.length)) x.length)).length ≤ 1000) (hk : k ≤ 1000)
    (h : K (.inl (rest.drop x.length, k + 1, l ++ share x (eqL (sumL 0 (rest.take x.length)) x.length)))) : WP (loopO (g_prizes_Prizes_l13 (subList rest none (some ((x.length : Nat) : Int))) rest x gs k l) (0, 0)) K := by
  have e1 : subList rest none (some ((x.length : Nat) : Int)) = rest.take x.length := by simp [subList]
  have e2 : subList rest (some ((x.length : Nat) : Int)) none = rest.drop x.length := by simp [subList]
  have el : (rest.take x.length).length = x.length := by simp; omega
  rw [e1]
  refine WP.loop (fun v => v.2 ≤ x.length ∧ v.1 = sumL 0 (rest.take v.2)) (fun v => x.length - v.2) ?_ ⟨by simp, by simp [sumL]⟩
  rintro ⟨n, j⟩ ⟨hj, iv⟩
  dsimp only at hj iv ⊢
  simp only [g_prizes_Prizes_l13]
  refine WP.iteD (fun hlt => ?_) (fun hlt => ?_)
  · obtain ⟨y, hy⟩ : ∃ y, rest[j]? = some y := ⟨_, List.getElem?_eq_getElem (by omega)⟩
    have hy' : (rest.take x.length)[j]? = some y := by rw [List.getElem?_take_of_lt (by omega)]; exact hy
    rw [gn_some hy']
    have e3 : n + y = sumL 0 (rest.take (j + 1)) := by rw [take_snoc hy, sumL_snoc, iv]
    have := hr (j + 1)
    (repeat' (first | with_reducible (first | refine WP.iteT ?_ | refine WP.iteF ?_ | refine WP.iteNb ?_ | refine WP.iteD (fun _ => ?_) (fun _ => ?_) | refine WP.iteE (fun _ => ?_) (fun _ => ?_) | refine WP.iteN (fun _ => ?_) (fun _ => ?_) | refine WP.iteB (fun _ => ?_) (fun _ => ?_)) | (with_reducible refine WP.ckI ?_ ?_; · omega) | (with_reducible refine WP.gn ?_ (fun _ _ => ?_); · omega) | (with_reducible refine WP.gt ?_ (fun _ _ => ?_); · omega) | with_reducible (first | refine WP.up ?_ | refine WP.letO ?_ | refine WP.ret ?_)))
    exact ⟨⟨by dsimp only; omega, e3⟩, by dsimp only; omega⟩
  · have hjx : j = x.length := by omega
    subst hjx
    unfold g_prizes_Prizes_j10
    (first | with_reducible (first | refine WP.iteT ?_ | refine WP.iteF ?_ | refine WP.iteNb ?_ | refine WP.iteD (fun _ => ?_) (fun _ => ?_) | refine WP.iteE (fun _ => ?_) (fun _ => ?_) | refine WP.iteN (fun _ => ?_) (fun _ => ?_) | refine WP.iteB (fun _ => ?_) (fun _ => ?_)) | (with_reducible refine WP.ckI ?_ ?_; · omega) | (with_reducible refine WP.gn ?_ (fun _ _ => ?_); · omega) | (with_reducible refine WP.gt ?_ (fun _ _ => ?_); · omega) | with_reducible (first | refine WP.up ?_ | refine WP.letO ?_ | refine WP.ret ?_))
    refine WP.sb (by simp; omega) ?_
    rw [e2]
    have := hr x.length
    refine WP.bd (equal_eq (n := ((x.length : Nat) : Int)) (a := n) (by omega) (by omega) (by omega) (by omega)) ?_
    rw [iv, show (((x.length : Nat) : Int)).toNat = x.length by omega]
    exact prizes_l11 (eqL_length _ _) hl hk (by omega) h
/-- The groups' payments. -/
theorem prizes_j7 {ps : List Prize} (hp : prOK 0 ps = true) (hs : sumA ps ≤ 1125899906842624) (hg : gs.flatten.length ≤ 24) (hne : ∀ x ∈ gs, x ≠ []) (hn : ((payG (partL ps) gs).map (·.c)).Nodup) :
    g_prizes_Prizes_j7 (partL ps) gs = some (srtP (payG (partL ps) gs), 0) := by
  have hlen : (payG (partL ps) gs).length ≤ 24 := by
    have := (payG_sub gs (partL ps)).length_le
    rw [List.length_map, List.length_map] at this; omega
  have hgl : gs.length ≤ gs.flatten.length := by
    clear hg hn hlen
    induction gs with
    | nil => simp
    | cons g gs ih =>
      have h1 := hne g (by simp)
      have h2 := ih fun x hx => hne x (by simp [hx])
      have h3 : 1 ≤ g.length := by cases g with | nil => exact absurd rfl h1 | cons _ _ => simp
      simp only [List.length_cons, List.flatten_cons, List.length_append]; omega
  refine WP.eq ?_
  unfold g_prizes_Prizes_j7
  refine WP.loop (fun v => ∃ i, v.2.1 ≤ gs.length ∧ v.1 = (partL ps).drop i ∧ i + (gs.drop v.2.1).flatten.length ≤ 24 ∧ v.2.2 ++ payG v.1 (gs.drop v.2.1) = payG (partL ps) gs) (fun v => gs.length - v.2.1) ?_ ⟨0, by simp, by simp, by simpa using hg, by simp⟩
  rintro ⟨rest, k, l⟩ ⟨i, hk, hr, hi, iv⟩
  dsimp only at hk hr hi iv ⊢
  simp only [g_prizes_Prizes_l8]
  have hpl : (partL ps).length = 24 := by simp [partL]
  refine WP.iteD (fun hlt => ?_) (fun hlt => ?_)
  · obtain ⟨x, hx⟩ : ∃ x, gs[k]? = some x := ⟨_, List.getElem?_eq_getElem (by omega)⟩
    rw [gn_some hx]
    have hx1 : 1 ≤ x.length := by
      have := hne x (List.mem_of_getElem? hx)
      cases x with | nil => exact absurd rfl this | cons _ _ => simp
    rw [drop_cons hx, List.flatten_cons, List.length_append] at hi
    rw [drop_cons hx, payG] at iv
    have hrl : rest.length = 24 - i := by rw [hr, List.length_drop, hpl]
    refine WP.sb (by simp; omega) ?_
    refine prizes_sum (fun m => ?_) (by omega) hx1 (by omega) ?_ (by omega) ?_
    · rw [hr]
      exact ⟨sumL_nonneg fun y hy => partL_nonneg hp y (List.mem_of_mem_drop (List.mem_of_mem_take hy)), part_total hp hs i m⟩
    · have h1 := congrArg List.length iv
      simp only [List.length_append] at h1 ⊢
      omega
    · refine ⟨⟨i + x.length, by dsimp only; omega, by dsimp only; rw [hr, List.drop_drop], by dsimp only; omega, ?_⟩, by dsimp only; omega⟩
      dsimp only
      rw [List.append_assoc]; exact iv
  · rw [List.drop_eq_nil_of_le (by omega), payG, List.append_nil] at iv
    (repeat' (first | with_reducible (first | refine WP.iteT ?_ | refine WP.iteF ?_ | refine WP.iteNb ?_ | refine WP.iteD (fun _ => ?_) (fun _ => ?_) | refine WP.iteE (fun _ => ?_) (fun _ => ?_) | refine WP.iteN (fun _ => ?_) (fun _ => ?_) | refine WP.iteB (fun _ => ?_) (fun _ => ?_)) | (with_reducible refine WP.ckI ?_ ?_; · omega) | (with_reducible refine WP.gn ?_ (fun _ _ => ?_); · omega) | (with_reducible refine WP.gt ?_ (fun _ _ => ?_); · omega) | with_reducible (first | refine WP.up ?_ | refine WP.letO ?_ | refine WP.ret ?_)))
    subst iv
    exact WP.of (prizes_j1_eq hn (by omega)) rfl
end
theorem gprizes_eq {t : Tab} {s : Sch} (hl : t.l.length ≤ 1000) (hs : s.p.length ≤ 1000) : g_prizes_Prizes t s = some (if fitS t s = 0 then srtP (payU t s) else [], fitS t s) := by
  refine WP.eq ?_
  unfold g_prizes_Prizes
  refine WP.bd (fits_eq hl hs) ?_
  refine WP.iteN (fun h => ?_) (fun h => ?_)
  · rw [if_neg h]; exact WP.ret rfl
  rw [if_pos h, h]
  obtain ⟨hp, hsum, _⟩ := fit_prizes h
  have h24 := fit_ranges h
  have hn : ((payU t s).map (·.c)).Nodup := payU_nodup (fitS_ok h).1
  have hfl := grp_flat t.l
  have fin : g_prizes_Prizes_j7 (partL s.p) (grp t.l) = some (srtP (payU t s), 0) := prizes_j7 hp hsum (by rw [hfl.1]; omega) hfl.2 hn
  refine WP.bd (parts_eq hp hs) ?_
  refine WP.loop (fun v => match v with
    | .inl _ => True
    | .inr (k, a, b) => ∃ x, 1 ≤ k ∧ k ≤ t.l.length ∧ t.l[k - 1]? = some x ∧ a.length + 1 ≤ k ∧ b.length ≤ k ∧ grp t.l = a ++ grpGo b x.k (t.l.drop k)) (fun v => match v with
    | .inl _ => t.l.length + 1
    | .inr (k, _, _) => t.l.length - k) ?_ trivial
  rintro (_ | ⟨k, a, b⟩) iv
  · simp only [g_prizes_Prizes_l16]
    refine WP.iteD (fun hlt => ?_) (fun hlt => absurd (show (0 : Int) < ((t.l.length : Nat) : Int) by omega) hlt)
    obtain ⟨x, hx⟩ : ∃ x, t.l[0]? = some x := ⟨_, List.getElem?_eq_getElem (by omega)⟩
    rw [gn_some hx]
    refine WP.ret ?_
    refine ⟨⟨x, by omega, by omega, hx, by simp, by simp, ?_⟩, by dsimp only; omega⟩
    rw [List.nil_append]
    have h1 := drop_cons hx
    rw [List.drop_zero] at h1
    rw [h1]; rfl
  · obtain ⟨x, hk1, hk, hx, ha, hb, iv⟩ := iv
    simp only [g_prizes_Prizes_l16]
    refine WP.iteD (fun hlt => ?_) (fun hlt => ?_)
    · obtain ⟨y, hy⟩ : ∃ y, t.l[k]? = some y := ⟨_, List.getElem?_eq_getElem (by omega)⟩
      rw [gn_some hy]
      refine WP.iteD (fun _ => ?_) (fun h => absurd h (by omega))
      refine WP.ckI (by omega) ?_
      rw [gt_some (x := x) (by rw [show (((k : Nat) : Int) - 1).toNat = k - 1 by omega]; exact hx) (by omega)]
      refine WP.bd (r := (x.k == y.k)) rfl ?_
      rw [drop_cons hy, grpGo] at iv
      by_cases he : x.k = y.k
      · rw [if_pos he] at iv
        rw [show (x.k == y.k) = true by simpa using he]
        unfold g_prizes_Prizes_j18
        refine WP.iteT ?_
        refine WP.ckI (by omega) ?_
        refine WP.ck (by omega) ?_
        refine WP.ck (by omega) ?_
        refine WP.ck (by simp only [List.length_cons, List.length_nil]; omega) ?_
        unfold g_prizes_Prizes_j17
        refine WP.ckI (by omega) ?_
        refine WP.ret ?_
        exact ⟨⟨y, by omega, by omega, by simpa using hy, by omega, by simp; omega, by rw [← he]; exact iv⟩, by dsimp only; omega⟩
      · rw [if_neg he] at iv
        rw [show (x.k == y.k) = false by simpa using he]
        unfold g_prizes_Prizes_j18
        refine WP.iteF ?_
        refine WP.ck (by omega) ?_
        unfold g_prizes_Prizes_j17
        refine WP.ckI (by omega) ?_
        refine WP.ret ?_
        exact ⟨⟨y, by omega, by omega, by simpa using hy, by simp; omega, by first | (simp; done) | (simp; omega), by first | exact iv | (rw [List.append_assoc]; exact iv)⟩, by dsimp only; omega⟩
    · rw [List.drop_eq_nil_of_le (by omega), grpGo] at iv
      unfold g_prizes_Prizes_j15
      rw [← iv]
      refine WP.up ?_
      exact WP.of fin rfl
end Go.Proofs.Ytoiiblkncbnlaaa

/-
  Chapter 42: what the reference's prizes compute. Conditions: those of each theorem.
-/
set_option linter.unusedVariables false
set_option linter.unusedSimpArgs false
namespace Go.Proofs.Ytoiiblkncbnlaaa
open Go.DL
set_option maxHeartbeats 4000000
section
variable {t : Tab} {s : Sch} {i m : Nat} {out : List Pay} {x : Place} {K : ((List Pay) × Int) ⊕ ((List Pay) × Int) → Prop}
end
end Go.Proofs.Ytoiiblkncbnlaaa

/-
  Chapter 42: which clubs rise and fall; the table and the scheme of a league. Conditions: those of each theorem.
-/
set_option linter.unusedVariables false
set_option linter.unusedSimpArgs false
namespace Go.Proofs.Ytoiiblkncbnlaaa
open Go.DL
set_option maxHeartbeats 4000000
theorem clubs_eq {l : List Place} (hl : l.length ≤ 1000) : g_prizes_clubs l = some (clubsL l) := by
  refine WP.eq ?_
  unfold g_prizes_clubs
  refine WP.loop (fun v => v.1 ≤ l.length ∧ v.2 = (l.take v.1).map clubOf) (fun v => l.length - v.1) ?_ ⟨by simp, by simp⟩
  rintro ⟨k, o⟩ ⟨hk, iv⟩
  dsimp only at hk iv ⊢
  have ho : o.length = k := by rw [iv]; simp; omega
  simp only [g_prizes_clubs_l2]
  refine WP.iteD (fun hlt => ?_) (fun hlt => ?_)
  · obtain ⟨x, hx⟩ : ∃ x, l[k]? = some x := ⟨_, List.getElem?_eq_getElem (by omega)⟩
    rw [gn_some hx]
    refine WP.ck (by simp only [List.length_cons, List.length_nil]; omega) ?_
    (repeat' (first | with_reducible (first | refine WP.iteT ?_ | refine WP.iteF ?_ | refine WP.iteNb ?_ | refine WP.iteD (fun _ => ?_) (fun _ => ?_) | refine WP.iteE (fun _ => ?_) (fun _ => ?_) | refine WP.iteN (fun _ => ?_) (fun _ => ?_) | refine WP.iteB (fun _ => ?_) (fun _ => ?_)) | (with_reducible refine WP.ckI ?_ ?_; · omega) | (with_reducible refine WP.gn ?_ (fun _ _ => ?_); · omega) | (with_reducible refine WP.gt ?_ (fun _ _ => ?_); · omega) | with_reducible (first | refine WP.up ?_ | refine WP.letO ?_ | refine WP.ret ?_)))
    exact ⟨⟨by dsimp only; omega, by dsimp only; rw [take_snoc hx, List.map_append, iv]; rfl⟩, by dsimp only; omega⟩
  · unfold g_prizes_clubs_j1
    (first | with_reducible (first | refine WP.iteT ?_ | refine WP.iteF ?_ | refine WP.iteNb ?_ | refine WP.iteD (fun _ => ?_) (fun _ => ?_) | refine WP.iteE (fun _ => ?_) (fun _ => ?_) | refine WP.iteN (fun _ => ?_) (fun _ => ?_) | refine WP.iteB (fun _ => ?_) (fun _ => ?_)) | (with_reducible refine WP.ckI ?_ ?_; · omega) | (with_reducible refine WP.gn ?_ (fun _ _ => ?_); · omega) | (with_reducible refine WP.gt ?_ (fun _ _ => ?_); · omega) | with_reducible (first | refine WP.up ?_ | refine WP.letO ?_ | refine WP.ret ?_))
    refine WP.ck (by omega) (WP.ret ?_)
    rw [iv, List.take_of_length_le (by omega)]; rfl
theorem moves_eq {t : Tab} {s : Sch} (hl : t.l.length ≤ 1000) (hs : s.p.length ≤ 1000) : g_prizes_Moves t s = some (upM t s, downM t s, movE t s) := by
  refine WP.eq ?_
  unfold g_prizes_Moves
  refine WP.bd (fits_eq hl hs) ?_
  refine WP.iteN (fun h => ?_) (fun h => ?_)
  · have e := movE_bad h
    rw [upM_nil (by rw [e]; exact h), downM_nil (by rw [e]; exact h), e]; exact WP.ret rfl
  have hr := fit_ranges h
  refine WP.ckI (by omega) ?_
  refine WP.iteD (fun h2 => ?_) (fun h2 => ?_)
  · have e := movE_420 h h2
    rw [upM_nil (by omega), downM_nil (by omega), e]; exact WP.ret rfl
  · have e := movE_ok h h2
    rw [upM_ok e, downM_ok e, e]
    refine WP.sb (by simp; omega) ?_
    have e1 : subList t.l none (some s.u) = t.l.take s.u.toNat := by simp [subList]
    rw [e1]
    refine WP.bd (clubs_eq (by simp; omega)) ?_
    refine WP.ckI (by omega) ?_
    refine WP.sb (by simp; omega) ?_
    have e2 : subList t.l (some (((t.l.length : Nat) : Int) - s.d)) none = t.l.drop (t.l.length - s.d.toNat) := by simp [subList]; congr 1; omega
    rw [e2]
    refine WP.bd (clubs_eq (by simp; omega)) ?_
    exact WP.ret rfl
theorem of_eq {ts : List Tab} {ss : List Sch} {c : Int} (h1 : ts.length ≤ 1000) (h2 : ss.length ≤ 1000) : g_prizes_of ts ss c = some (⟨ofT ts ss c, ofS ts ss c⟩, ofB ts ss c) := by
  have hj2 : g_prizes_of_j2 (idxT c ts 0) ts ss (idxS c ss 0) = some (⟨ofT ts ss c, ofS ts ss c⟩, ofB ts ss c) := by
    refine WP.eq ?_
    unfold g_prizes_of_j2
    have no : ofB ts ss c = false → WP (g_prizes_of_j3 ts (idxT c ts 0) ss (idxS c ss 0) true) (fun z => z = (⟨ofT ts ss c, ofS ts ss c⟩, ofB ts ss c)) := fun h => by
      unfold g_prizes_of_j3
      (repeat' (first | with_reducible (first | refine WP.iteT ?_ | refine WP.iteF ?_ | refine WP.iteNb ?_ | refine WP.iteD (fun _ => ?_) (fun _ => ?_) | refine WP.iteE (fun _ => ?_) (fun _ => ?_) | refine WP.iteN (fun _ => ?_) (fun _ => ?_) | refine WP.iteB (fun _ => ?_) (fun _ => ?_)) | (with_reducible refine WP.ckI ?_ ?_; · omega) | (with_reducible refine WP.gn ?_ (fun _ _ => ?_); · omega) | (with_reducible refine WP.gt ?_ (fun _ _ => ?_); · omega) | with_reducible (first | refine WP.up ?_ | refine WP.letO ?_ | refine WP.ret ?_)))
      rw [h, ofT_no h, ofS_no h]; rfl
    refine WP.iteD (fun h => ?_) (fun h => ?_)
    · exact no (ofB_no (.inl h))
    · by_cases h3 : idxS c ss 0 < 0
      · rw [decide_eq_true h3]; exact no (ofB_no (.inr h3))
      · rw [decide_eq_false h3]
        have hb := ofB_yes (ts := ts) (ss := ss) (c := c) (by omega) (by omega)
        have r1 := idxT_range c ts 0
        have r2 := idxS_range c ss 0
        unfold g_prizes_of_j3
        refine WP.iteF ?_
        refine WP.gt (by omega) fun x hx => ?_
        refine WP.gt (by omega) fun y hy => ?_
        refine WP.ret ?_
        rw [hb, ofT_yes hb hx, ofS_yes hb hy]
  have hj1 : g_prizes_of_j1 ss c ts (idxT c ts 0) = some (⟨ofT ts ss c, ofS ts ss c⟩, ofB ts ss c) := by
    refine WP.eq ?_
    unfold g_prizes_of_j1
    refine WP.loop (fun k => k ≤ ss.length ∧ idxS c (ss.drop k) k = idxS c ss 0) (fun k => ss.length - k) ?_ ⟨by omega, rfl⟩
    rintro k ⟨hk, iv⟩
    simp only [g_prizes_of_l5]
    refine WP.iteD (fun hlt => ?_) (fun hlt => ?_)
    · obtain ⟨x, hx⟩ : ∃ x, ss[k]? = some x := ⟨_, List.getElem?_eq_getElem (by omega)⟩
      rw [gn_some hx]
      refine WP.iteE (fun he => ?_) (fun he => ?_)
      · rw [idxS_here hx he] at iv
        refine WP.up ?_
        rw [iv]
        exact WP.of hj2 rfl
      · rw [idxS_skip hx he] at iv
        (repeat' (first | with_reducible (first | refine WP.iteT ?_ | refine WP.iteF ?_ | refine WP.iteNb ?_ | refine WP.iteD (fun _ => ?_) (fun _ => ?_) | refine WP.iteE (fun _ => ?_) (fun _ => ?_) | refine WP.iteN (fun _ => ?_) (fun _ => ?_) | refine WP.iteB (fun _ => ?_) (fun _ => ?_)) | (with_reducible refine WP.ckI ?_ ?_; · omega) | (with_reducible refine WP.gn ?_ (fun _ _ => ?_); · omega) | (with_reducible refine WP.gt ?_ (fun _ _ => ?_); · omega) | with_reducible (first | refine WP.up ?_ | refine WP.letO ?_ | refine WP.ret ?_)))
        exact ⟨⟨by omega, iv⟩, by dsimp only; omega⟩
    · rw [idxS_end (by omega)] at iv
      unfold g_prizes_of_j4
      refine WP.up ?_
      rw [iv]
      exact WP.of hj2 rfl
  refine WP.eq ?_
  unfold g_prizes_of
  refine WP.loop (fun k => k ≤ ts.length ∧ idxT c (ts.drop k) k = idxT c ts 0) (fun k => ts.length - k) ?_ ⟨by omega, rfl⟩
  rintro k ⟨hk, iv⟩
  simp only [g_prizes_of_l7]
  refine WP.iteD (fun hlt => ?_) (fun hlt => ?_)
  · obtain ⟨x, hx⟩ : ∃ x, ts[k]? = some x := ⟨_, List.getElem?_eq_getElem (by omega)⟩
    rw [gn_some hx]
    refine WP.iteE (fun he => ?_) (fun he => ?_)
    · rw [idxT_here hx he] at iv
      refine WP.up ?_
      rw [iv]
      exact WP.of hj1 rfl
    · rw [idxT_skip hx he] at iv
      (repeat' (first | with_reducible (first | refine WP.iteT ?_ | refine WP.iteF ?_ | refine WP.iteNb ?_ | refine WP.iteD (fun _ => ?_) (fun _ => ?_) | refine WP.iteE (fun _ => ?_) (fun _ => ?_) | refine WP.iteN (fun _ => ?_) (fun _ => ?_) | refine WP.iteB (fun _ => ?_) (fun _ => ?_)) | (with_reducible refine WP.ckI ?_ ?_; · omega) | (with_reducible refine WP.gn ?_ (fun _ _ => ?_); · omega) | (with_reducible refine WP.gt ?_ (fun _ _ => ?_); · omega) | with_reducible (first | refine WP.up ?_ | refine WP.letO ?_ | refine WP.ret ?_)))
      exact ⟨⟨by omega, iv⟩, by dsimp only; omega⟩
  · rw [idxT_end (by omega)] at iv
    unfold g_prizes_of_j6
    refine WP.up ?_
    rw [iv]
    exact WP.of hj1 rfl
end Go.Proofs.Ytoiiblkncbnlaaa

/-
  Chapter 42: the clubs of the next season as the reference computes them. Conditions: those of each theorem.
-/
set_option linter.unusedVariables false
set_option linter.unusedSimpArgs false
namespace Go.Proofs.Ytoiiblkncbnlaaa
open Go.DL
set_option maxHeartbeats 4000000
theorem index_eq {l : List Int} {n : Int} (hl : l.length ≤ 1000) : WP (g_slices_Index_Lint_int l n) (fun r => decide (r ≥ 0) = l.contains n) := by
  unfold g_slices_Index_Lint_int
  refine WP.loop (fun k => k ≤ l.length ∧ (l.drop k).contains n = l.contains n) (fun k => l.length - k) ?_ ⟨by omega, rfl⟩
  rintro k ⟨hk, iv⟩
  simp only [g_slices_Index_Lint_int_l2]
  refine WP.iteD (fun hlt => ?_) (fun hlt => ?_)
  · obtain ⟨x, hx⟩ : ∃ x, l[k]? = some x := ⟨_, List.getElem?_eq_getElem (by omega)⟩
    rw [gn_some hx]
    refine WP.iteE (fun he => ?_) (fun he => ?_)
    · (repeat' (first | with_reducible (first | refine WP.iteT ?_ | refine WP.iteF ?_ | refine WP.iteNb ?_ | refine WP.iteD (fun _ => ?_) (fun _ => ?_) | refine WP.iteE (fun _ => ?_) (fun _ => ?_) | refine WP.iteN (fun _ => ?_) (fun _ => ?_) | refine WP.iteB (fun _ => ?_) (fun _ => ?_)) | (with_reducible refine WP.ckI ?_ ?_; · omega) | (with_reducible refine WP.gn ?_ (fun _ _ => ?_); · omega) | (with_reducible refine WP.gt ?_ (fun _ _ => ?_); · omega) | with_reducible (first | refine WP.up ?_ | refine WP.letO ?_ | refine WP.ret ?_)))
      show decide (((k : Nat) : Int) ≥ 0) = _
      rw [has_here iv hx he.symm]; exact decide_eq_true (by omega)
    · (repeat' (first | with_reducible (first | refine WP.iteT ?_ | refine WP.iteF ?_ | refine WP.iteNb ?_ | refine WP.iteD (fun _ => ?_) (fun _ => ?_) | refine WP.iteE (fun _ => ?_) (fun _ => ?_) | refine WP.iteN (fun _ => ?_) (fun _ => ?_) | refine WP.iteB (fun _ => ?_) (fun _ => ?_)) | (with_reducible refine WP.ckI ?_ ?_; · omega) | (with_reducible refine WP.gn ?_ (fun _ _ => ?_); · omega) | (with_reducible refine WP.gt ?_ (fun _ _ => ?_); · omega) | with_reducible (first | refine WP.up ?_ | refine WP.letO ?_ | refine WP.ret ?_)))
      exact ⟨⟨by omega, has_skip iv hx fun e => he e.symm⟩, by dsimp only; omega⟩
  · unfold g_slices_Index_Lint_int_j1
    (repeat' (first | with_reducible (first | refine WP.iteT ?_ | refine WP.iteF ?_ | refine WP.iteNb ?_ | refine WP.iteD (fun _ => ?_) (fun _ => ?_) | refine WP.iteE (fun _ => ?_) (fun _ => ?_) | refine WP.iteN (fun _ => ?_) (fun _ => ?_) | refine WP.iteB (fun _ => ?_) (fun _ => ?_)) | (with_reducible refine WP.ckI ?_ ?_; · omega) | (with_reducible refine WP.gn ?_ (fun _ _ => ?_); · omega) | (with_reducible refine WP.gt ?_ (fun _ _ => ?_); · omega) | with_reducible (first | refine WP.up ?_ | refine WP.letO ?_ | refine WP.ret ?_)))
    show decide ((-1 : Int) ≥ 0) = _
    rw [has_end iv (by omega)]; rfl
theorem contains_eq {l : List Int} {n : Int} (hl : l.length ≤ 1000) : g_slices_Contains_Lint_int l n = some (l.contains n) := by
  refine WP.eq ?_
  unfold g_slices_Contains_Lint_int
  refine WP.bdW ((index_eq (n := n) hl).mono fun r hr => ?_)
  exact WP.ret hr
theorem comeL_len {ts : List Tab} {ss : List Sch} {c : Int} (h : ∀ t ∈ ts, t.l.length ≤ 30) : (comeL ts ss c).length ≤ 90 := by
  have h1 := ofT_len (ss := ss) h c
  have h2 : (aboveL ts ss (ofS ts ss c).ab).length ≤ 30 := by
    unfold aboveL; split
    · simp
    · have := downM_length (ofT ts ss (ofS ts ss c).ab) (ofS ts ss (ofS ts ss c).ab); have := ofT_len (ss := ss) h (ofS ts ss c).ab; omega
  have h3 : (belowL ts ss (ofS ts ss c).be).length ≤ 30 := by
    unfold belowL; split
    · simp
    · have := upM_length (ofT ts ss (ofS ts ss c).be) (ofS ts ss (ofS ts ss c).be); have := ofT_len (ss := ss) h (ofS ts ss c).be; omega
  have h4 : (restL (ofT ts ss c) (ofS ts ss c)).length ≤ 30 := by
    have := List.length_filter_le (stays (ofT ts ss c) (ofS ts ss c)) ((ofT ts ss c).l.map clubOf)
    unfold restL; simp at this ⊢; omega
  simp only [comeL, List.length_append]; omega
section
variable {ts : List Tab} {ss : List Sch} {c : Int}
end
end Go.Proofs.Ytoiiblkncbnlaaa

/-
  Chapter 42: the clubs of the next season as the program computes them. Conditions: those of each theorem.
-/
set_option linter.unusedVariables false
set_option linter.unusedSimpArgs false
namespace Go.Proofs.Ytoiiblkncbnlaaa
open Go.DL
set_option maxHeartbeats 4000000
/-! ### sets of numbers -/
def setL (l : List Int) : List Int := l.foldl sput []
theorem setL_snoc (l : List Int) (n : Int) : setL (l ++ [n]) = sput (setL l) n := by simp [setL]
theorem setF_facts (l : List Int) : ∀ o : List Int, o.Pairwise (· < ·) → (l.foldl sput o).Pairwise (· < ·) ∧ (∀ x, x ∈ l.foldl sput o ↔ x ∈ o ∨ x ∈ l) ∧ (l.foldl sput o).length ≤ o.length + l.length ∧ ((l.foldl sput o).length = o.length + l.length ↔ l.Nodup ∧ ∀ x ∈ l, x ∉ o) := by
  induction l with
  | nil => intro o h; exact ⟨h, by simp, by simp, by simp⟩
  | cons a l ih =>
    intro o h
    obtain ⟨h1, h2, h3, h4⟩ := ih (sput o a) (sput_sorted h)
    have h5 := sput_le a o
    refine ⟨h1, fun x => ?_, by simp only [List.foldl_cons, List.length_cons]; omega, ?_⟩
    · simp only [List.foldl_cons]
      rw [h2, mem_sput, List.mem_cons]
      constructor
      · rintro ((rfl | h) | h)
        · exact .inr (.inl rfl)
        · exact .inl h
        · exact .inr (.inr h)
      · rintro (h | rfl | h)
        · exact .inl (.inr h)
        · exact .inl (.inl rfl)
        · exact .inr h
    · simp only [List.foldl_cons, List.length_cons]
      rw [List.nodup_cons]
      by_cases ha : a ∈ o
      · rw [sput_old h ha] at h3 h4
        constructor
        · intro h6; omega
        · rintro ⟨_, h7⟩; exact absurd ha (h7 a (by simp))
      · have hn := sput_new ha
        rw [hn] at h4
        constructor
        · intro h6
          obtain ⟨h7, h8⟩ := h4.1 (by omega)
          refine ⟨⟨fun hc => h8 a hc (mem_sput.2 (.inl rfl)), h7⟩, fun x hx => ?_⟩
          rcases List.mem_cons.1 hx with rfl | hx
          · exact ha
          · exact fun hxo => h8 x hx (mem_sput.2 (.inr hxo))
        · rintro ⟨⟨h6, h7⟩, h8⟩
          have := h4.2 ⟨h7, fun x hx hxo => by
            rcases mem_sput.1 hxo with rfl | h9
            · exact h6 hx
            · exact h8 x (by simp [hx]) h9⟩
          omega
theorem setL_facts (l : List Int) : (setL l).Pairwise (· < ·) ∧ (∀ x, x ∈ setL l ↔ x ∈ l) ∧ (setL l).length ≤ l.length ∧ ((setL l).length = l.length ↔ l.Nodup) := by
  obtain ⟨h1, h2, h3, h4⟩ := setF_facts l [] List.Pairwise.nil
  unfold setL
  exact ⟨h1, by simpa using h2, by simpa using h3, by simpa using h4⟩
theorem srtI_sorted (l : List Int) : (srtI l).Pairwise (· ≤ ·) :=
  (List.pairwise_mergeSort (le := fun x y => decide (x ≤ y)) (fun a b c h1 h2 => by simp at *; omega) (fun a b => by simp; omega) l).imp fun h => by simpa using h
theorem sorted_uniq {l d : List Int} (h1 : l.Pairwise (· ≤ ·)) (h2 : d.Pairwise (· ≤ ·)) (h : l.Perm d) : l = d :=
  h.eq_of_pairwise (fun a b _ _ h1 h2 => by omega) h1 h2
theorem setL_srtI {l : List Int} (h : l.Nodup) : setL l = srtI l := by
  obtain ⟨h1, h2, h3, h4⟩ := setL_facts l
  refine sorted_uniq (h1.imp fun h => by omega) (srtI_sorted l) ?_
  refine List.Perm.trans ?_ (srtI_perm l).symm
  refine (List.perm_ext_iff_of_nodup (h1.imp fun h => by omega) h).2 h2
theorem srtI_congr {l d : List Int} (h : l.Perm d) : srtI l = srtI d :=
  sorted_uniq (srtI_sorted l) (srtI_sorted d) ((srtI_perm l).trans (h.trans (srtI_perm d).symm))
/-! ### the range of clubs -/
theorem plOK_row : ∀ (l : List Place) (k : Nat) (q : Place) (seen : List Int), plOK k q seen l = true → ∀ p ∈ l, rowOK p.r = true
  | [], _, _, _, _ => by simp
  | p :: l, k, q, seen, h => by
    rw [plOK] at h
    split at h
    · rename_i hp
      intro x hx
      rcases List.mem_cons.1 hx with rfl | hx
      · exact hp.2.2.1
      · exact plOK_row l (k + 1) p _ h x hx
    · cases h
theorem chk_range {t : Tab} (h : chkT t = 0) : ∀ x ∈ t.l.map clubOf, 0 ≤ x ∧ x ≤ 191 := by
  rcases chkT_cases t with h1 | ⟨_, _, h1⟩
  · omega
  · intro x hx
    obtain ⟨p, hp, rfl⟩ := List.mem_map.1 hx
    exact rowOK_c (plOK_row _ _ _ _ h1 p hp)
theorem movE_chk {t : Tab} {s : Sch} (h : movE t s = 0) : fitS t s = 0 ∧ chkT t = 0 := by
  have : fitS t s = 0 := by
    by_cases h1 : fitS t s = 0
    · exact h1
    · rw [movE_bad h1] at h; exact absurd h h1
  exact ⟨this, (fitS_ok this).1⟩
theorem upM_sub {t : Tab} {s : Sch} (h : movE t s = 0) : ∀ x ∈ upM t s, x ∈ t.l.map clubOf := by
  intro x hx
  rw [upM_ok h, clubsL] at hx
  have := (srtI_perm _).mem_iff.1 hx
  rw [List.map_take] at this
  exact List.mem_of_mem_take this
theorem downM_sub {t : Tab} {s : Sch} (h : movE t s = 0) : ∀ x ∈ downM t s, x ∈ t.l.map clubOf := by
  intro x hx
  rw [downM_ok h, clubsL] at hx
  have := (srtI_perm _).mem_iff.1 hx
  rw [List.map_drop] at this
  exact List.mem_of_mem_drop this
section
variable {ts : List Tab} {ss : List Sch} {c : Int}
theorem next_j5 {l : List Int} (hpre : preE ts ss c = 0) (hl : l.Perm (comeL ts ss c)) (hlen : l.length ≤ 1000) : WP (g_prizes_Next_j5 l.length (setL l)) (fun z => z = (nextL ts ss c, nextE ts ss c)) := by
  obtain ⟨h1, h2, h3, h4⟩ := setL_facts l
  have hn : l.Nodup ↔ (comeL ts ss c).Nodup := hl.nodup_iff
  have hll := hl.length_eq
  have j6 : ∀ b, (b = true ↔ ¬ (l.Nodup ∧ 2 ≤ l.length ∧ l.length ≤ 24)) → WP (g_prizes_Next_j6 (setL l) b) (fun z => z = (nextL ts ss c, nextE ts ss c)) := fun b hb => by
    unfold g_prizes_Next_j6
    cases b
    · have hg : l.Nodup ∧ 2 ≤ l.length ∧ l.length ≤ 24 := by
        by_cases h : l.Nodup ∧ 2 ≤ l.length ∧ l.length ≤ 24
        · exact h
        · cases hb.2 h
      have e : nextE ts ss c = 0 := nextE_0 hpre ⟨hn.1 hg.1, by omega, by omega⟩
      refine WP.iteF (WP.ck h1 (WP.ck (by omega) (WP.ret ?_)))
      rw [nextL_ok e, e, setL_srtI hg.1, srtI_congr hl]
    · have hg := hb.1 rfl
      refine WP.iteT (WP.ret ?_)
      have e : nextE ts ss c = 190 := nextE_190 hpre (by rw [← hn, ← hll]; exact hg)
      rw [nextL_nil e (by omega), e]
  unfold g_prizes_Next_j5
  refine WP.iteN (fun h => ?_) (fun h => ?_)
  · refine j6 _ ?_
    simp only [true_iff]
    intro hg; exact h (by have := h4.2 hg.1; omega)
  have hnd := h4.1 (by omega)
  refine WP.iteD (fun h5 => ?_) (fun h5 => ?_)
  · refine j6 _ ?_
    simp only [true_iff]; omega
  · refine j6 _ ?_
    rw [decide_eq_true_eq]
    constructor
    · omega
    · intro hg
      by_cases h6 : l.length ≤ 24
      · exact absurd ⟨hnd, by omega, h6⟩ hg
      · omega
/-- What the clubs of one list leave: they are counted and put into the set. -/
theorem next_j4 {pre l : List Int} {n : Nat} (hpre : preE ts ss c = 0) (hn : n ≤ l.length) (hr : ∀ x ∈ l.take n, 0 ≤ x ∧ x ≤ 191) (hl : (pre ++ l.take n).Perm (comeL ts ss c)) (hlen : pre.length + n ≤ 1000) :
    WP (g_prizes_Next_j4 pre.length (setL pre) 0 n l) (fun z => z = (nextL ts ss c, nextE ts ss c)) := by
  have hin : (l.take n).length = n := by simp; omega
  unfold g_prizes_Next_j4
  refine WP.loop (fun v => v.1 ≤ n ∧ v.2.1 = (pre ++ (l.take n).take v.1).length ∧ v.2.2 = setL (pre ++ (l.take n).take v.1)) (fun v => n - v.1) ?_ ⟨by simp, by simp, by simp⟩
  rintro ⟨k, m, o⟩ ⟨hk, im, io⟩
  dsimp only at hk im io ⊢
  have hm : m = pre.length + k := by rw [im, List.length_append, List.length_take, hin]; omega
  simp only [g_prizes_Next_l7]
  refine WP.iteD (fun hlt => ?_) (fun hlt => ?_)
  · refine WP.ck (by omega) ?_
    obtain ⟨x, hx⟩ : ∃ x, (l.take n)[k]? = some x := ⟨_, List.getElem?_eq_getElem (by omega)⟩
    have hx2 : l[0 + k]? = some x := by rw [List.getElem?_take_of_lt (by omega)] at hx; rw [Nat.zero_add]; exact hx
    rw [gn_some hx2]
    have hxr := hr x (List.mem_of_getElem? hx)
    have hol := (setL_facts (pre ++ (l.take n).take k)).2.2.1
    rw [← im] at hol
    rw [← io] at hol
    refine WP.ckI (by omega) ?_
    refine WP.ck (by simp only [maxLen]; omega) ?_
    (repeat' (first | with_reducible (first | refine WP.iteT ?_ | refine WP.iteF ?_ | refine WP.iteNb ?_ | refine WP.iteD (fun _ => ?_) (fun _ => ?_) | refine WP.iteE (fun _ => ?_) (fun _ => ?_) | refine WP.iteN (fun _ => ?_) (fun _ => ?_) | refine WP.iteB (fun _ => ?_) (fun _ => ?_)) | (with_reducible refine WP.ckI ?_ ?_; · omega) | (with_reducible refine WP.gn ?_ (fun _ _ => ?_); · omega) | (with_reducible refine WP.gt ?_ (fun _ _ => ?_); · omega) | with_reducible (first | refine WP.up ?_ | refine WP.letO ?_ | refine WP.ret ?_)))
    refine ⟨⟨by dsimp only; omega, ?_, ?_⟩, by dsimp only; omega⟩
    · dsimp only
      rw [take_snoc hx, ← List.append_assoc, List.length_append, ← im]; rfl
    · dsimp only
      rw [take_snoc hx, ← List.append_assoc, setL_snoc, io]
  · have hkn : k = n := by omega
    subst hkn
    rw [List.take_take, Nat.min_self] at im io
    refine WP.up ?_
    rw [im, io]
    exact next_j5 hpre hl (by rw [List.length_append, hin]; omega)
/-- The clubs that stay are moved to the front. -/
theorem next_rest {pre l up down : List Int} {p : Int → Bool} (hp : ∀ x, p x = (!up.contains x && !down.contains x)) (hpre : preE ts ss c = 0) (hr : ∀ x ∈ l, 0 ≤ x ∧ x ≤ 191) (hl : (pre ++ l.filter p).Perm (comeL ts ss c)) (hlen : pre.length + l.length ≤ 1000) (hu : up.length ≤ 1000) (hd : down.length ≤ 1000) :
    WP (g_prizes_Next_j3 (up, down, 0) pre.length (setL pre) l) (fun z => z = (nextL ts ss c, nextE ts ss c)) := by
  have key : ∀ x, (if up.contains x = true then true else down.contains x) = !p x := fun x => by
    rw [hp]; cases up.contains x <;> cases down.contains x <;> rfl
  unfold g_prizes_Next_j3
  refine WP.loop (fun k => k ≤ l.length ∧ (l.take k).filter p = l.take k) (fun k => l.length - k) ?_ ⟨by omega, by simp⟩
  rintro k ⟨hk, iv⟩
  simp only [g_prizes_Next_l14]
  refine WP.iteD (fun hlt => ?_) (fun hlt => ?_)
  · obtain ⟨x, hx⟩ : ∃ x, l[k]? = some x := ⟨_, List.getElem?_eq_getElem (by omega)⟩
    rw [gn_some hx]
    have j15 : ∀ b, b = (!p x) → WP (g_prizes_Next_j15 pre.length (setL pre) l (up, down, 0) k b) (Rnd (fun k : Nat => k ≤ l.length ∧ (l.take k).filter p = l.take k) (fun k => l.length - k) (l.length - k) fun z => z = (nextL ts ss c, nextE ts ss c)) := fun b hb => by
      unfold g_prizes_Next_j15
      cases hpx : p x
      · rw [hpx] at hb
        subst hb
        refine WP.iteT (WP.up ?_)
        show WP _ (fun z => z = (nextL ts ss c, nextE ts ss c))
        unfold g_prizes_Next_j8
        refine WP.iteE (fun h => absurd h (by omega)) (fun _ => ?_)
        refine WP.ckI (by omega) ?_
        refine WP.loop (fun v => ∃ I J : Nat, v.1 = (I : Int) ∧ v.2.1 = (J : Int) ∧ I < J ∧ J ≤ l.length ∧ v.2.2.length = l.length ∧ v.2.2.take I = (l.take J).filter p ∧ v.2.2.drop J = l.drop J) (fun v => l.length - v.2.1.toNat) ?_ ⟨k, k + 1, rfl, by dsimp only; omega, by omega, by omega, rfl, by rw [take_snoc hx, List.filter_append, iv, List.filter_cons, hpx]; simp, rfl⟩
        rintro ⟨i, j, o⟩ ⟨I, J, rfl, rfl, hIJ, hJ, hol, it, id⟩
        dsimp only at hol it id ⊢
        simp only [g_prizes_Next_l10]
        refine WP.iteD (fun hlt2 => ?_) (fun hlt2 => ?_)
        · obtain ⟨y, hy⟩ : ∃ y, l[J]? = some y := ⟨_, List.getElem?_eq_getElem (by omega)⟩
          have hoy : o[J]? = some y := by
            have := congrArg (fun z => z[0]?) id
            simp only [List.getElem?_drop, Nat.add_zero] at this
            rw [this]; exact hy
          rw [gt_some (x := y) (by simpa using hoy) (by omega)]
          have j12 : ∀ b, b = (!p y) → WP (g_prizes_Next_j12 o ((I : Nat) : Int) ((J : Nat) : Int) (up, down, 0) pre.length (setL pre) y b) (Rnd (fun v : Int × Int × List Int => ∃ I J : Nat, v.1 = (I : Int) ∧ v.2.1 = (J : Int) ∧ I < J ∧ J ≤ l.length ∧ v.2.2.length = l.length ∧ v.2.2.take I = (l.take J).filter p ∧ v.2.2.drop J = l.drop J) (fun v => l.length - v.2.1.toNat) (l.length - (((J : Nat) : Int)).toNat) fun z => z = (nextL ts ss c, nextE ts ss c)) := fun b hb => by
            unfold g_prizes_Next_j12 g_prizes_Next_j11
            have hdr : o.drop (J + 1) = l.drop (J + 1) := by
              rw [← List.drop_drop, ← List.drop_drop, id]
            cases hpy : p y
            · rw [hpy] at hb
              subst hb
              (repeat' (first | with_reducible (first | refine WP.iteT ?_ | refine WP.iteF ?_ | refine WP.iteNb ?_ | refine WP.iteD (fun _ => ?_) (fun _ => ?_) | refine WP.iteE (fun _ => ?_) (fun _ => ?_) | refine WP.iteN (fun _ => ?_) (fun _ => ?_) | refine WP.iteB (fun _ => ?_) (fun _ => ?_)) | (with_reducible refine WP.ckI ?_ ?_; · omega) | (with_reducible refine WP.gn ?_ (fun _ _ => ?_); · omega) | (with_reducible refine WP.gt ?_ (fun _ _ => ?_); · omega) | with_reducible (first | refine WP.up ?_ | refine WP.letO ?_ | refine WP.ret ?_)))
              exact ⟨⟨I, J + 1, rfl, by dsimp only; omega, by omega, by omega, hol, by dsimp only; rw [take_snoc hy, List.filter_append, it, List.filter_cons, hpy]; simp, hdr⟩, by dsimp only; omega⟩
            · rw [hpy] at hb
              subst hb
              refine WP.iteNb (WP.iteF ?_)
              refine WP.gt (by omega) fun z hz => ?_
              (repeat' (first | with_reducible (first | refine WP.iteT ?_ | refine WP.iteF ?_ | refine WP.iteNb ?_ | refine WP.iteD (fun _ => ?_) (fun _ => ?_) | refine WP.iteE (fun _ => ?_) (fun _ => ?_) | refine WP.iteN (fun _ => ?_) (fun _ => ?_) | refine WP.iteB (fun _ => ?_) (fun _ => ?_)) | (with_reducible refine WP.ckI ?_ ?_; · omega) | (with_reducible refine WP.gn ?_ (fun _ _ => ?_); · omega) | (with_reducible refine WP.gt ?_ (fun _ _ => ?_); · omega) | with_reducible (first | refine WP.up ?_ | refine WP.letO ?_ | refine WP.ret ?_)))
              refine ⟨⟨I + 1, J + 1, by dsimp only; omega, by dsimp only; omega, by omega, by omega, by simpa using hol, ?_, ?_⟩, by dsimp only; omega⟩
              · dsimp only
                rw [show (((I : Nat) : Int)).toNat = I by omega]
                have e1 : (o.set I y)[I]? = some y := by rw [List.getElem?_set]; simp; omega
                rw [take_snoc e1, List.take_set_of_le (by omega), it, take_snoc hy, List.filter_append, List.filter_cons, hpy]; simp
              · dsimp only
                rw [show (((I : Nat) : Int)).toNat = I by omega, List.drop_set_of_lt (by omega), hdr]
          refine WP.bd (contains_eq hu) ?_
          have hk := key y
          refine WP.iteB (fun h => ?_) (fun h => ?_)
          · refine j12 _ ?_
            rw [h] at hk; exact hk
          · refine WP.bd (contains_eq hd) ?_
            refine j12 _ ?_
            rw [h] at hk; exact hk
        · have hJl : J = l.length := by omega
          subst hJl
          rw [List.take_length] at it
          have hil : (l.filter p).length = I := by rw [← it, List.length_take, hol]; omega
          refine WP.up ?_
          unfold g_prizes_Next_j9
          refine WP.sbp (by simp; omega) ?_
          refine WP.ck (by simp; omega) ?_
          refine WP.sbp (by simp; omega) ?_
          have e1 : ((some ((I : Nat) : Int)).getD 0).toNat = I := by simp
          have e2 : ((none : Option Int).getD 0).toNat = 0 := by simp
          simp only [e1, e2, Option.getD_some, Int.toNat_natCast, Nat.sub_zero]
          have e3 : ∀ m (z : List Int), (o.take I ++ List.replicate m 0 ++ z).take I = l.filter p := fun m z => by
            rw [List.append_assoc, List.take_append_of_le_length (by simp; omega), List.take_take, Nat.min_self, it]
          refine next_j4 hpre (by simp; omega) ?_ ?_ (by omega)
          · rw [e3]; exact fun x hx => hr x (List.mem_filter.1 hx).1
          · rw [e3]; exact hl
      · rw [hpx] at hb
        subst hb
        (repeat' (first | with_reducible (first | refine WP.iteT ?_ | refine WP.iteF ?_ | refine WP.iteNb ?_ | refine WP.iteD (fun _ => ?_) (fun _ => ?_) | refine WP.iteE (fun _ => ?_) (fun _ => ?_) | refine WP.iteN (fun _ => ?_) (fun _ => ?_) | refine WP.iteB (fun _ => ?_) (fun _ => ?_)) | (with_reducible refine WP.ckI ?_ ?_; · omega) | (with_reducible refine WP.gn ?_ (fun _ _ => ?_); · omega) | (with_reducible refine WP.gt ?_ (fun _ _ => ?_); · omega) | with_reducible (first | refine WP.up ?_ | refine WP.letO ?_ | refine WP.ret ?_)))
        exact ⟨⟨by omega, by rw [take_snoc hx, List.filter_append, iv, List.filter_cons, hpx]; simp⟩, by dsimp only; omega⟩
    refine WP.bd (contains_eq hu) ?_
    have hk := key x
    refine WP.iteB (fun h => ?_) (fun h => ?_)
    · refine j15 _ ?_
      rw [h] at hk; exact hk
    · refine WP.bd (contains_eq hd) ?_
      refine j15 _ ?_
      rw [h] at hk; exact hk
  · rw [List.take_of_length_le (by omega)] at iv
    refine WP.up ?_
    unfold g_prizes_Next_j13 g_prizes_Next_j8
    refine WP.iteE (fun _ => ?_) (fun h => absurd rfl h)
    rw [List.length_map]
    have e : l.take l.length = l := List.take_length
    refine next_j4 hpre (Nat.le_refl _) ?_ ?_ hlen
    · rw [e]; exact hr
    · rw [e, ← iv]; exact hl
theorem next_j2 {pre : List Int} (hpre : preE ts ss c = 0) (hm : movE (ofT ts ss c) (ofS ts ss c) = 0) (hft : ∀ t ∈ ts, t.l.length ≤ 30) (hl : pre = aboveL ts ss (ofS ts ss c).ab ++ belowL ts ss (ofS ts ss c).be) :
    WP (g_prizes_Next_j2 (⟨ofT ts ss c, ofS ts ss c⟩, true) (upM (ofT ts ss c) (ofS ts ss c), downM (ofT ts ss c) (ofS ts ss c), 0) pre.length (setL pre)) (fun z => z = (nextL ts ss c, nextE ts ss c)) := by
  have hcl := comeL_len (ss := ss) (c := c) hft
  have hle : pre.length ≤ 90 := by
    simp only [comeL, List.length_append] at hcl
    rw [hl, List.length_append]; omega
  have hT := ofT_len (ss := ss) hft c
  have hu := upM_length (ofT ts ss c) (ofS ts ss c)
  have hd := downM_length (ofT ts ss c) (ofS ts ss c)
  unfold g_prizes_Next_j2
  refine WP.loop (fun v => v.1 ≤ (ofT ts ss c).l.length ∧ v.2 = ((ofT ts ss c).l.take v.1).map clubOf) (fun v => (ofT ts ss c).l.length - v.1) ?_ ⟨by simp, by simp⟩
  rintro ⟨k, o⟩ ⟨hk, iv⟩
  dsimp only at hk iv ⊢
  have ho : o.length = k := by rw [iv]; simp; omega
  simp only [g_prizes_Next_l17]
  refine WP.iteD (fun hlt => ?_) (fun hlt => ?_)
  · obtain ⟨x, hx⟩ : ∃ x, (ofT ts ss c).l[k]? = some x := ⟨_, List.getElem?_eq_getElem (by omega)⟩
    rw [gn_some hx]
    refine WP.ck (by simp only [List.length_cons, List.length_nil]; omega) ?_
    (repeat' (first | with_reducible (first | refine WP.iteT ?_ | refine WP.iteF ?_ | refine WP.iteNb ?_ | refine WP.iteD (fun _ => ?_) (fun _ => ?_) | refine WP.iteE (fun _ => ?_) (fun _ => ?_) | refine WP.iteN (fun _ => ?_) (fun _ => ?_) | refine WP.iteB (fun _ => ?_) (fun _ => ?_)) | (with_reducible refine WP.ckI ?_ ?_; · omega) | (with_reducible refine WP.gn ?_ (fun _ _ => ?_); · omega) | (with_reducible refine WP.gt ?_ (fun _ _ => ?_); · omega) | with_reducible (first | refine WP.up ?_ | refine WP.letO ?_ | refine WP.ret ?_)))
    exact ⟨⟨by dsimp only; omega, by dsimp only; rw [take_snoc hx, List.map_append, iv]; rfl⟩, by dsimp only; omega⟩
  · rw [List.take_of_length_le (by omega)] at iv
    refine WP.up ?_
    unfold g_prizes_Next_j16
    refine WP.ck (by omega) ?_
    rw [iv]
    have hrng := chk_range (movE_chk hm).2
    refine next_rest (p := stays (ofT ts ss c) (ofS ts ss c)) (fun x => rfl) hpre (fun x hx => hrng x ((srtI_perm _).mem_iff.1 hx)) ?_ (by rw [srtI_length, List.length_map]; omega) (by omega) (by omega)
    rw [hl, comeL]
    exact ((srtI_perm _).filter _).append_left _
/-- A list of clubs is counted and put into the set. -/
theorem next_l20 {pre up : List Int} {r3 : List Int × Int} {r4 : League × Bool} {r7 : List Int × List Int × Int} {K : List Int × Int → Prop} (hr : ∀ x ∈ up, 0 ≤ x ∧ x ≤ 191) (hlen : pre.length + up.length ≤ 1000) (h : WP (g_prizes_Next_j2 r4 r7 (pre ++ up).length (setL (pre ++ up))) K) :
    WP (loopO (g_prizes_Next_l20 (up, r3) r4 r7) (0, pre.length, setL pre)) K := by
  refine WP.loop (fun v => v.1 ≤ up.length ∧ v.2.1 = (pre ++ up.take v.1).length ∧ v.2.2 = setL (pre ++ up.take v.1)) (fun v => up.length - v.1) ?_ ⟨by simp, by simp, by simp⟩
  rintro ⟨k, m, o⟩ ⟨hk, im, io⟩
  dsimp only at hk im io ⊢
  have hm : m = pre.length + k := by rw [im, List.length_append, List.length_take]; omega
  simp only [g_prizes_Next_l20]
  refine WP.iteD (fun hlt => ?_) (fun hlt => ?_)
  · obtain ⟨x, hx⟩ : ∃ x, up[k]? = some x := ⟨_, List.getElem?_eq_getElem (by omega)⟩
    rw [gn_some hx]
    have hxr := hr x (List.mem_of_getElem? hx)
    have hol := (setL_facts (pre ++ up.take k)).2.2.1
    rw [← im] at hol
    rw [← io] at hol
    refine WP.ckI (by omega) ?_
    refine WP.ck (by simp only [maxLen]; omega) ?_
    (repeat' (first | with_reducible (first | refine WP.iteT ?_ | refine WP.iteF ?_ | refine WP.iteNb ?_ | refine WP.iteD (fun _ => ?_) (fun _ => ?_) | refine WP.iteE (fun _ => ?_) (fun _ => ?_) | refine WP.iteN (fun _ => ?_) (fun _ => ?_) | refine WP.iteB (fun _ => ?_) (fun _ => ?_)) | (with_reducible refine WP.ckI ?_ ?_; · omega) | (with_reducible refine WP.gn ?_ (fun _ _ => ?_); · omega) | (with_reducible refine WP.gt ?_ (fun _ _ => ?_); · omega) | with_reducible (first | refine WP.up ?_ | refine WP.letO ?_ | refine WP.ret ?_)))
    refine ⟨⟨by dsimp only; omega, ?_, ?_⟩, by dsimp only; omega⟩
    · dsimp only
      rw [take_snoc hx, ← List.append_assoc, List.length_append, ← im]; rfl
    · dsimp only
      rw [take_snoc hx, ← List.append_assoc, setL_snoc, io]
  · rw [List.take_of_length_le (by omega)] at im io
    refine WP.up ?_
    unfold g_prizes_Next_j19
    rw [im, io]
    exact h
theorem next_l23 {down : List Int} {r1 : List Int} {e : Int} {r4 : League × Bool} {r7 : List Int × List Int × Int} {n : Int} {K : List Int × Int → Prop} (hr : ∀ x ∈ down, 0 ≤ x ∧ x ≤ 191) (hlen : down.length ≤ 1000) (h : WP (g_prizes_Next_j1 r4 ts ss r7 n down.length (setL down)) K) :
    WP (loopO (g_prizes_Next_l23 (r1, down, e) r4 ts ss r7 n) (0, 0, [])) K := by
  refine WP.loop (fun v => v.1 ≤ down.length ∧ v.2.1 = (down.take v.1).length ∧ v.2.2 = setL (down.take v.1)) (fun v => down.length - v.1) ?_ ⟨by simp, by simp, by simp [setL]⟩
  rintro ⟨k, m, o⟩ ⟨hk, im, io⟩
  dsimp only at hk im io ⊢
  have hm : m = k := by rw [im, List.length_take]; omega
  simp only [g_prizes_Next_l23]
  refine WP.iteD (fun hlt => ?_) (fun hlt => ?_)
  · obtain ⟨x, hx⟩ : ∃ x, down[k]? = some x := ⟨_, List.getElem?_eq_getElem (by omega)⟩
    rw [gn_some hx]
    have hxr := hr x (List.mem_of_getElem? hx)
    have hol := (setL_facts (down.take k)).2.2.1
    rw [← im] at hol
    rw [← io] at hol
    refine WP.ckI (by omega) ?_
    refine WP.ck (by simp only [maxLen]; omega) ?_
    (repeat' (first | with_reducible (first | refine WP.iteT ?_ | refine WP.iteF ?_ | refine WP.iteNb ?_ | refine WP.iteD (fun _ => ?_) (fun _ => ?_) | refine WP.iteE (fun _ => ?_) (fun _ => ?_) | refine WP.iteN (fun _ => ?_) (fun _ => ?_) | refine WP.iteB (fun _ => ?_) (fun _ => ?_)) | (with_reducible refine WP.ckI ?_ ?_; · omega) | (with_reducible refine WP.gn ?_ (fun _ _ => ?_); · omega) | (with_reducible refine WP.gt ?_ (fun _ _ => ?_); · omega) | with_reducible (first | refine WP.up ?_ | refine WP.letO ?_ | refine WP.ret ?_)))
    refine ⟨⟨by dsimp only; omega, ?_, ?_⟩, by dsimp only; omega⟩
    · dsimp only
      rw [take_snoc hx, List.length_append, ← im]; rfl
    · dsimp only
      rw [take_snoc hx, setL_snoc, io]
  · rw [List.take_of_length_le (by omega)] at im io
    refine WP.up ?_
    unfold g_prizes_Next_j22
    rw [im, io]
    exact h
theorem next_eq (h1 : ts.length ≤ 1000) (h2 : ss.length ≤ 1000) (hft : ∀ t ∈ ts, t.l.length ≤ 30) (hfs : ∀ s ∈ ss, s.p.length ≤ 30) : g_prizes_Next ts ss c = some (nextL ts ss c, nextE ts ss c) := by
  refine WP.eq ?_
  have bad : ∀ e : Int, nextE ts ss c = e → e ≠ 0 → (([] : List Int), e) = (nextL ts ss c, nextE ts ss c) := fun e he h0 => by rw [nextL_nil he h0, he]
  have hlen := fun n => ofT_len (ss := ss) hft n
  have hlenS := fun n => ofS_len (ts := ts) hfs n
  unfold g_prizes_Next
  refine WP.bd (of_eq h1 h2) ?_
  dsimp only
  cases hb : ofB ts ss c
  · refine WP.iteNb (WP.iteF (WP.ret ?_))
    exact bad 420 (err_1 hb) (by omega)
  refine WP.iteNb (WP.iteT ?_)
  refine WP.bd (moves_eq (by have := hlen c; omega) (by have := hlenS c; omega)) ?_
  dsimp only
  refine WP.iteN (fun hm => ?_) (fun hm => ?_)
  · exact WP.ret (bad _ (err_2 hb hm) hm)
  rw [hm]
  have hal : (aboveL ts ss (ofS ts ss c).ab).length ≤ 90 := by
    have := comeL_len (ss := ss) (c := c) hft
    simp only [comeL, List.length_append] at this; omega
  have j1 : aboveE ts ss c = 0 → WP (g_prizes_Next_j1 (⟨ofT ts ss c, ofS ts ss c⟩, true) ts ss (upM (ofT ts ss c) (ofS ts ss c), downM (ofT ts ss c) (ofS ts ss c), 0) c (aboveL ts ss (ofS ts ss c).ab).length (setL (aboveL ts ss (ofS ts ss c).ab))) (fun z => z = (nextL ts ss c, nextE ts ss c)) := fun ha => by
    unfold g_prizes_Next_j1
    dsimp only
    refine WP.iteN (fun hn => ?_) (fun hn => ?_)
    · refine WP.bd (of_eq h1 h2) ?_
      dsimp only
      have j18t : (ofB ts ss (ofS ts ss c).be = false ∨ (ofT ts ss (ofS ts ss c).be).s ≠ (ofT ts ss c).s ∨ (ofS ts ss (ofS ts ss c).be).ab ≠ c) → ∀ r r4 r7 n m, WP (g_prizes_Next_j18 r r4 r7 n m true) (fun z => z = (nextL ts ss c, nextE ts ss c)) := fun hd r r4 r7 n m => by
        unfold g_prizes_Next_j18
        refine WP.iteT (WP.ret ?_)
        exact bad 420 (err_5 hb hm ha hn hd) (by omega)
      cases hb2 : ofB ts ss (ofS ts ss c).be
      · refine WP.iteNb (WP.iteF ?_)
        exact j18t (.inl hb2) _ _ _ _ _
      refine WP.iteNb (WP.iteT ?_)
      refine WP.iteN (fun h3 => j18t (.inr (.inl h3)) _ _ _ _ _) (fun h3 => ?_)
      by_cases h4 : (ofS ts ss (ofS ts ss c).be).ab = c
      · rw [show ((ofS ts ss (ofS ts ss c).be).ab != c) = false by simpa using h4]
        unfold g_prizes_Next_j18
        refine WP.iteF ?_
        refine WP.bd (moves_eq (by have := hlen (ofS ts ss c).be; dsimp only; omega) (by have := hlenS (ofS ts ss c).be; dsimp only; omega)) ?_
        dsimp only
        refine WP.iteN (fun hm2 => ?_) (fun hm2 => ?_)
        · exact WP.ret (bad _ (err_6 hb hm ha hn hb2 h3 h4 hm2) hm2)
        have hul := upM_length (ofT ts ss (ofS ts ss c).be) (ofS ts ss (ofS ts ss c).be)
        have := hlen (ofS ts ss c).be
        have hbe : belowE ts ss c = 0 := (sideE_ok hn hb2 h3 h4).trans hm2
        have hrng := chk_range (movE_chk hm2).2
        refine next_l20 (fun x hx => hrng x (upM_sub hm2 x hx)) (by omega) ?_
        refine next_j2 ((preE_4 hb hm ha).trans hbe) hm hft ?_
        rw [belowL, if_neg hn]
      · rw [show ((ofS ts ss (ofS ts ss c).be).ab != c) = true by simpa using h4]
        exact j18t (.inr (.inr h4)) _ _ _ _ _
    · have hbe : belowE ts ss c = 0 := sideE_skip hn
      refine next_j2 ((preE_4 hb hm ha).trans hbe) hm hft ?_
      rw [belowL, if_pos hn, List.append_nil]
  refine WP.iteN (fun hn => ?_) (fun hn => ?_)
  · refine WP.bd (of_eq h1 h2) ?_
    dsimp only
    have j21t : (ofB ts ss (ofS ts ss c).ab = false ∨ (ofT ts ss (ofS ts ss c).ab).s ≠ (ofT ts ss c).s ∨ (ofS ts ss (ofS ts ss c).ab).be ≠ c) → ∀ r r4 r7, WP (g_prizes_Next_j21 r r4 ts ss r7 c true) (fun z => z = (nextL ts ss c, nextE ts ss c)) := fun hd r r4 r7 => by
      unfold g_prizes_Next_j21
      refine WP.iteT (WP.ret ?_)
      exact bad 420 (err_3 hb hm hn hd) (by omega)
    cases hb2 : ofB ts ss (ofS ts ss c).ab
    · refine WP.iteNb (WP.iteF ?_)
      exact j21t (.inl hb2) _ _ _
    refine WP.iteNb (WP.iteT ?_)
    refine WP.iteN (fun h3 => j21t (.inr (.inl h3)) _ _ _) (fun h3 => ?_)
    by_cases h4 : (ofS ts ss (ofS ts ss c).ab).be = c
    · rw [show ((ofS ts ss (ofS ts ss c).ab).be != c) = false by simpa using h4]
      unfold g_prizes_Next_j21
      refine WP.iteF ?_
      refine WP.bd (moves_eq (by have := hlen (ofS ts ss c).ab; dsimp only; omega) (by have := hlenS (ofS ts ss c).ab; dsimp only; omega)) ?_
      dsimp only
      refine WP.iteN (fun hm2 => ?_) (fun hm2 => ?_)
      · exact WP.ret (bad _ (err_4 hb hm hn hb2 h3 h4 hm2) hm2)
      have hul := downM_length (ofT ts ss (ofS ts ss c).ab) (ofS ts ss (ofS ts ss c).ab)
      have := hlen (ofS ts ss c).ab
      have hae : aboveE ts ss c = 0 := (sideE_ok hn hb2 h3 h4).trans hm2
      have hrng := chk_range (movE_chk hm2).2
      refine next_l23 (fun x hx => hrng x (downM_sub hm2 x hx)) (by omega) ?_
      have := j1 hae
      rw [aboveL, if_neg hn] at this
      exact this
    · rw [show ((ofS ts ss (ofS ts ss c).ab).be != c) = true by simpa using h4]
      exact j21t (.inr (.inr h4)) _ _ _
  · have := j1 (sideE_skip hn)
    rw [aboveL, if_pos hn] at this
    exact this
end
end Go.Proofs.Ytoiiblkncbnlaaa

/-
  Chapter 42: comparisons, the size of the statements' inputs, the chapter's examples, the three statements about the reference. Conditions: those of each theorem.
-/
set_option linter.unusedVariables false
set_option linter.unusedSimpArgs false
namespace Go.Proofs.Ytoiiblkncbnlaaa
open Go.DL
set_option maxHeartbeats 4000000
theorem same_eq {a b : List Pay} (h : a.length ≤ 1000) : WP (g_ref42_Same a b) (fun z => (z = true ↔ a = b)) := by
  unfold g_ref42_Same
  refine WP.iteN (fun hl => ?_) (fun hl => ?_)
  · refine WP.ret ?_
    simp only [Bool.false_eq_true, false_iff]
    rintro rfl; exact hl rfl
  refine WP.loop (fun k => k ≤ a.length ∧ a.take k = b.take k) (fun k => a.length - k) ?_ ⟨by omega, by simp⟩
  rintro k ⟨hk, iv⟩
  simp only [g_ref42_Same_l2]
  refine WP.iteD (fun hlt => ?_) (fun hlt => ?_)
  · obtain ⟨x, hx⟩ : ∃ x, a[k]? = some x := ⟨_, List.getElem?_eq_getElem (by omega)⟩
    obtain ⟨y, hy⟩ : ∃ y, b[k]? = some y := ⟨_, List.getElem?_eq_getElem (by omega)⟩
    rw [gn_some hx, gn_some hy]
    by_cases he : x = y
    · subst he
      rw [show (!((x.c == x.c) && ((x.a == x.a) && true))) = false by simp]
      (repeat' (first | with_reducible (first | refine WP.iteT ?_ | refine WP.iteF ?_ | refine WP.iteNb ?_ | refine WP.iteD (fun _ => ?_) (fun _ => ?_) | refine WP.iteE (fun _ => ?_) (fun _ => ?_) | refine WP.iteN (fun _ => ?_) (fun _ => ?_) | refine WP.iteB (fun _ => ?_) (fun _ => ?_)) | (with_reducible refine WP.ckI ?_ ?_; · omega) | (with_reducible refine WP.gn ?_ (fun _ _ => ?_); · omega) | (with_reducible refine WP.gt ?_ (fun _ _ => ?_); · omega) | with_reducible (first | refine WP.up ?_ | refine WP.letO ?_ | refine WP.ret ?_)))
      exact ⟨⟨by omega, by rw [take_snoc hx, take_snoc hy, iv]⟩, by dsimp only; omega⟩
    · have hne : (!((x.c == y.c) && ((x.a == y.a) && true))) = true := by
        by_cases h1 : x.c = y.c
        · by_cases h2 : x.a = y.a
          · exact absurd (by cases x; cases y; simp at h1 h2; subst h1; subst h2; rfl) he
          · simp [h2]
        · simp [h1]
      rw [hne]
      (repeat' (first | with_reducible (first | refine WP.iteT ?_ | refine WP.iteF ?_ | refine WP.iteNb ?_ | refine WP.iteD (fun _ => ?_) (fun _ => ?_) | refine WP.iteE (fun _ => ?_) (fun _ => ?_) | refine WP.iteN (fun _ => ?_) (fun _ => ?_) | refine WP.iteB (fun _ => ?_) (fun _ => ?_)) | (with_reducible refine WP.ckI ?_ ?_; · omega) | (with_reducible refine WP.gn ?_ (fun _ _ => ?_); · omega) | (with_reducible refine WP.gt ?_ (fun _ _ => ?_); · omega) | with_reducible (first | refine WP.up ?_ | refine WP.letO ?_ | refine WP.ret ?_)))
      show (false = true ↔ a = b)
      simp only [Bool.false_eq_true, false_iff]
      rintro rfl
      rw [hx] at hy; exact he (Option.some.inj hy)
  · unfold g_ref42_Same_j1
    (repeat' (first | with_reducible (first | refine WP.iteT ?_ | refine WP.iteF ?_ | refine WP.iteNb ?_ | refine WP.iteD (fun _ => ?_) (fun _ => ?_) | refine WP.iteE (fun _ => ?_) (fun _ => ?_) | refine WP.iteN (fun _ => ?_) (fun _ => ?_) | refine WP.iteB (fun _ => ?_) (fun _ => ?_)) | (with_reducible refine WP.ckI ?_ ?_; · omega) | (with_reducible refine WP.gn ?_ (fun _ _ => ?_); · omega) | (with_reducible refine WP.gt ?_ (fun _ _ => ?_); · omega) | with_reducible (first | refine WP.up ?_ | refine WP.letO ?_ | refine WP.ret ?_)))
    show (true = true ↔ a = b)
    rw [List.take_of_length_le (by omega), List.take_of_length_le (by omega)] at iv
    simp [iv]
theorem sameInts_eq {a b : List Int} (h : a.length ≤ 1000) : WP (g_ref42_SameInts a b) (fun z => (z = true ↔ a = b)) := by
  unfold g_ref42_SameInts
  refine WP.iteN (fun hl => ?_) (fun hl => ?_)
  · refine WP.ret ?_
    simp only [Bool.false_eq_true, false_iff]
    rintro rfl; exact hl rfl
  refine WP.loop (fun k => k ≤ a.length ∧ a.take k = b.take k) (fun k => a.length - k) ?_ ⟨by omega, by simp⟩
  rintro k ⟨hk, iv⟩
  simp only [g_ref42_SameInts_l2]
  refine WP.iteD (fun hlt => ?_) (fun hlt => ?_)
  · obtain ⟨x, hx⟩ : ∃ x, a[k]? = some x := ⟨_, List.getElem?_eq_getElem (by omega)⟩
    obtain ⟨y, hy⟩ : ∃ y, b[k]? = some y := ⟨_, List.getElem?_eq_getElem (by omega)⟩
    rw [gn_some hx, gn_some hy]
    refine WP.iteN (fun he => ?_) (fun he => ?_)
    · (repeat' (first | with_reducible (first | refine WP.iteT ?_ | refine WP.iteF ?_ | refine WP.iteNb ?_ | refine WP.iteD (fun _ => ?_) (fun _ => ?_) | refine WP.iteE (fun _ => ?_) (fun _ => ?_) | refine WP.iteN (fun _ => ?_) (fun _ => ?_) | refine WP.iteB (fun _ => ?_) (fun _ => ?_)) | (with_reducible refine WP.ckI ?_ ?_; · omega) | (with_reducible refine WP.gn ?_ (fun _ _ => ?_); · omega) | (with_reducible refine WP.gt ?_ (fun _ _ => ?_); · omega) | with_reducible (first | refine WP.up ?_ | refine WP.letO ?_ | refine WP.ret ?_)))
      show (false = true ↔ a = b)
      simp only [Bool.false_eq_true, false_iff]
      rintro rfl
      rw [hx] at hy; exact he (Option.some.inj hy)
    · subst he
      (repeat' (first | with_reducible (first | refine WP.iteT ?_ | refine WP.iteF ?_ | refine WP.iteNb ?_ | refine WP.iteD (fun _ => ?_) (fun _ => ?_) | refine WP.iteE (fun _ => ?_) (fun _ => ?_) | refine WP.iteN (fun _ => ?_) (fun _ => ?_) | refine WP.iteB (fun _ => ?_) (fun _ => ?_)) | (with_reducible refine WP.ckI ?_ ?_; · omega) | (with_reducible refine WP.gn ?_ (fun _ _ => ?_); · omega) | (with_reducible refine WP.gt ?_ (fun _ _ => ?_); · omega) | with_reducible (first | refine WP.up ?_ | refine WP.letO ?_ | refine WP.ret ?_)))
      exact ⟨⟨by omega, by rw [take_snoc hx, take_snoc hy, iv]⟩, by dsimp only; omega⟩
  · unfold g_ref42_SameInts_j1
    (repeat' (first | with_reducible (first | refine WP.iteT ?_ | refine WP.iteF ?_ | refine WP.iteNb ?_ | refine WP.iteD (fun _ => ?_) (fun _ => ?_) | refine WP.iteE (fun _ => ?_) (fun _ => ?_) | refine WP.iteN (fun _ => ?_) (fun _ => ?_) | refine WP.iteB (fun _ => ?_) (fun _ => ?_)) | (with_reducible refine WP.ckI ?_ ?_; · omega) | (with_reducible refine WP.gn ?_ (fun _ _ => ?_); · omega) | (with_reducible refine WP.gt ?_ (fun _ _ => ?_); · omega) | with_reducible (first | refine WP.up ?_ | refine WP.letO ?_ | refine WP.ret ?_)))
    show (true = true ↔ a = b)
    rw [List.take_of_length_le (by omega), List.take_of_length_le (by omega)] at iv
    simp [iv]
theorem few_eq (ts : List Tab) (ss : List Sch) : WP (g_ref42_Few ts ss) (fun z => (z = true ↔ Few ts ss)) := by
  have no : ¬ Few ts ss → (false = true ↔ Few ts ss) := fun h => by simp [h]
  have j1 : ∀ b, (b = true → ¬ Few ts ss) → (b = false → ts.length ≤ 5 ∧ ss.length ≤ 5) → WP (g_ref42_Few_j1 ts ss b) (fun z => (z = true ↔ Few ts ss)) := fun b h1 h2 => by
    unfold g_ref42_Few_j1
    cases b
    · obtain ⟨h3, h4⟩ := h2 rfl
      refine WP.iteF ?_
      refine WP.loop (fun k => k ≤ ts.length ∧ ∀ t ∈ ts.take k, t.l.length ≤ 30) (fun k => ts.length - k) ?_ ⟨by omega, by simp⟩
      rintro k ⟨hk, iv⟩
      simp only [g_ref42_Few_l5]
      refine WP.iteD (fun hlt => ?_) (fun hlt => ?_)
      · obtain ⟨x, hx⟩ : ∃ x, ts[k]? = some x := ⟨_, List.getElem?_eq_getElem (by omega)⟩
        rw [gn_some hx]
        refine WP.iteD (fun h5 => ?_) (fun h5 => ?_)
        · (repeat' (first | with_reducible (first | refine WP.iteT ?_ | refine WP.iteF ?_ | refine WP.iteNb ?_ | refine WP.iteD (fun _ => ?_) (fun _ => ?_) | refine WP.iteE (fun _ => ?_) (fun _ => ?_) | refine WP.iteN (fun _ => ?_) (fun _ => ?_) | refine WP.iteB (fun _ => ?_) (fun _ => ?_)) | (with_reducible refine WP.ckI ?_ ?_; · omega) | (with_reducible refine WP.gn ?_ (fun _ _ => ?_); · omega) | (with_reducible refine WP.gt ?_ (fun _ _ => ?_); · omega) | with_reducible (first | refine WP.up ?_ | refine WP.letO ?_ | refine WP.ret ?_)))
          refine no fun hf => ?_
          have := hf.2.2.1 x (List.mem_of_getElem? hx)
          omega
        · (repeat' (first | with_reducible (first | refine WP.iteT ?_ | refine WP.iteF ?_ | refine WP.iteNb ?_ | refine WP.iteD (fun _ => ?_) (fun _ => ?_) | refine WP.iteE (fun _ => ?_) (fun _ => ?_) | refine WP.iteN (fun _ => ?_) (fun _ => ?_) | refine WP.iteB (fun _ => ?_) (fun _ => ?_)) | (with_reducible refine WP.ckI ?_ ?_; · omega) | (with_reducible refine WP.gn ?_ (fun _ _ => ?_); · omega) | (with_reducible refine WP.gt ?_ (fun _ _ => ?_); · omega) | with_reducible (first | refine WP.up ?_ | refine WP.letO ?_ | refine WP.ret ?_)))
          exact ⟨⟨by omega, all_snoc iv hx (by omega)⟩, by dsimp only; omega⟩
      · rw [List.take_of_length_le (by omega)] at iv
        refine WP.up ?_
        unfold g_ref42_Few_j2
        refine WP.loop (fun k => k ≤ ss.length ∧ ∀ s ∈ ss.take k, s.p.length ≤ 30) (fun k => ss.length - k) ?_ ⟨by omega, by simp⟩
        rintro j ⟨hj, iw⟩
        simp only [g_ref42_Few_l4]
        refine WP.iteD (fun hlt2 => ?_) (fun hlt2 => ?_)
        · obtain ⟨x, hx⟩ : ∃ x, ss[j]? = some x := ⟨_, List.getElem?_eq_getElem (by omega)⟩
          rw [gn_some hx]
          refine WP.iteD (fun h5 => ?_) (fun h5 => ?_)
          · (repeat' (first | with_reducible (first | refine WP.iteT ?_ | refine WP.iteF ?_ | refine WP.iteNb ?_ | refine WP.iteD (fun _ => ?_) (fun _ => ?_) | refine WP.iteE (fun _ => ?_) (fun _ => ?_) | refine WP.iteN (fun _ => ?_) (fun _ => ?_) | refine WP.iteB (fun _ => ?_) (fun _ => ?_)) | (with_reducible refine WP.ckI ?_ ?_; · omega) | (with_reducible refine WP.gn ?_ (fun _ _ => ?_); · omega) | (with_reducible refine WP.gt ?_ (fun _ _ => ?_); · omega) | with_reducible (first | refine WP.up ?_ | refine WP.letO ?_ | refine WP.ret ?_)))
            refine no fun hf => ?_
            have := hf.2.2.2 x (List.mem_of_getElem? hx)
            omega
          · (repeat' (first | with_reducible (first | refine WP.iteT ?_ | refine WP.iteF ?_ | refine WP.iteNb ?_ | refine WP.iteD (fun _ => ?_) (fun _ => ?_) | refine WP.iteE (fun _ => ?_) (fun _ => ?_) | refine WP.iteN (fun _ => ?_) (fun _ => ?_) | refine WP.iteB (fun _ => ?_) (fun _ => ?_)) | (with_reducible refine WP.ckI ?_ ?_; · omega) | (with_reducible refine WP.gn ?_ (fun _ _ => ?_); · omega) | (with_reducible refine WP.gt ?_ (fun _ _ => ?_); · omega) | with_reducible (first | refine WP.up ?_ | refine WP.letO ?_ | refine WP.ret ?_)))
            exact ⟨⟨by omega, all_snoc iw hx (by omega)⟩, by dsimp only; omega⟩
        · rw [List.take_of_length_le (by omega)] at iw
          unfold g_ref42_Few_j3
          (repeat' (first | with_reducible (first | refine WP.iteT ?_ | refine WP.iteF ?_ | refine WP.iteNb ?_ | refine WP.iteD (fun _ => ?_) (fun _ => ?_) | refine WP.iteE (fun _ => ?_) (fun _ => ?_) | refine WP.iteN (fun _ => ?_) (fun _ => ?_) | refine WP.iteB (fun _ => ?_) (fun _ => ?_)) | (with_reducible refine WP.ckI ?_ ?_; · omega) | (with_reducible refine WP.gn ?_ (fun _ _ => ?_); · omega) | (with_reducible refine WP.gt ?_ (fun _ _ => ?_); · omega) | with_reducible (first | refine WP.up ?_ | refine WP.letO ?_ | refine WP.ret ?_)))
          show (true = true ↔ Few ts ss)
          simp only [true_iff]
          exact ⟨h3, h4, iv, iw⟩
    · refine WP.iteT (WP.ret ?_)
      exact no (h1 rfl)
  unfold g_ref42_Few
  refine WP.iteD (fun h => ?_) (fun h => ?_)
  · refine j1 _ (fun _ hf => ?_) (fun hb => by cases hb)
    have := hf.1; omega
  · refine j1 _ (fun hb hf => ?_) (fun hb => ?_)
    · have := hf.2.1
      have := of_decide_eq_true hb
      omega
    · have := of_decide_eq_false hb
      omega
theorem level_eq {c : Int} {cs : List Int} (h : cs.length ≤ 1000) : g_law42_level c cs = some (levelT c cs) := by
  refine WP.eq ?_
  unfold g_law42_level
  refine WP.loop (fun v => v.1 ≤ cs.length ∧ v.2 = (cs.take v.1).map tied) (fun v => cs.length - v.1) ?_ ⟨by simp, by simp⟩
  rintro ⟨k, o⟩ ⟨hk, iv⟩
  dsimp only at hk iv ⊢
  have ho : o.length = k := by rw [iv]; simp; omega
  simp only [g_law42_level_l2]
  refine WP.iteD (fun hlt => ?_) (fun hlt => ?_)
  · obtain ⟨x, hx⟩ : ∃ x, cs[k]? = some x := ⟨_, List.getElem?_eq_getElem (by omega)⟩
    rw [gn_some hx]
    refine WP.ck (by simp only [List.length_cons, List.length_nil]; omega) ?_
    (repeat' (first | with_reducible (first | refine WP.iteT ?_ | refine WP.iteF ?_ | refine WP.iteNb ?_ | refine WP.iteD (fun _ => ?_) (fun _ => ?_) | refine WP.iteE (fun _ => ?_) (fun _ => ?_) | refine WP.iteN (fun _ => ?_) (fun _ => ?_) | refine WP.iteB (fun _ => ?_) (fun _ => ?_)) | (with_reducible refine WP.ckI ?_ ?_; · omega) | (with_reducible refine WP.gn ?_ (fun _ _ => ?_); · omega) | (with_reducible refine WP.gt ?_ (fun _ _ => ?_); · omega) | with_reducible (first | refine WP.up ?_ | refine WP.letO ?_ | refine WP.ret ?_)))
    exact ⟨⟨by dsimp only; omega, level_step iv hx⟩, by dsimp only; omega⟩
  · unfold g_law42_level_j1
    (repeat' (first | with_reducible (first | refine WP.iteT ?_ | refine WP.iteF ?_ | refine WP.iteNb ?_ | refine WP.iteD (fun _ => ?_) (fun _ => ?_) | refine WP.iteE (fun _ => ?_) (fun _ => ?_) | refine WP.iteN (fun _ => ?_) (fun _ => ?_) | refine WP.iteB (fun _ => ?_) (fun _ => ?_)) | (with_reducible refine WP.ckI ?_ ?_; · omega) | (with_reducible refine WP.gn ?_ (fun _ _ => ?_); · omega) | (with_reducible refine WP.gt ?_ (fun _ _ => ?_); · omega) | with_reducible (first | refine WP.up ?_ | refine WP.letO ?_ | refine WP.ret ?_)))
    rw [iv, List.take_of_length_le (by omega)]; rfl
/-! ### the chapter's examples -/
def sc1 : Sch := ⟨2, [⟨1, 2, 101⟩], 0, 0, -1, -1⟩
def sc2 : Sch := ⟨2, [⟨1, 2, 101⟩], 3, 0, 1, -1⟩
def ta1 : Tab := levelT 2 [4, 9]
theorem ex_fit : fitS ta1 sc1 = 0 := by decide
theorem ex_pay : payU ta1 sc1 = [⟨4, 51⟩, ⟨9, 50⟩] := by decide
theorem ex_pay2 : srtP (payU ta1 sc1) = [⟨4, 51⟩, ⟨9, 50⟩] := by
  rw [← insAll_eq (by rw [ex_pay]; decide), ex_pay]; decide
theorem ex_mov : movE ta1 sc1 = 0 := by decide
theorem ex_of : ofB [ta1] [sc1] 2 = true ∧ ofT [ta1] [sc1] 2 = ta1 ∧ ofS [ta1] [sc1] 2 = sc1 := by
  have h : ofB [ta1] [sc1] 2 = true := by decide
  exact ⟨h, ofT_yes h (by rfl), ofS_yes h (by rfl)⟩
theorem ex_none : clubsL [] = [] := by rw [clubsL, ← insAllI_eq]; rfl
theorem ex_rest : restL ta1 sc1 = [4, 9] := by
  have h1 : upM ta1 sc1 = [] := by rw [upM_ok ex_mov]; exact ex_none
  have h2 : downM ta1 sc1 = [] := by rw [downM_ok ex_mov]; exact ex_none
  unfold restL
  rw [show stays ta1 sc1 = fun _ => true by funext x; unfold stays; rw [h1, h2]; rfl]
  decide
theorem ex_come : comeL [ta1] [sc1] 2 = [4, 9] := by
  obtain ⟨_, h2, h3⟩ := ex_of
  unfold comeL
  rw [h2, h3, ex_rest]
  rfl
theorem ex_next : nextE [ta1] [sc1] 2 = 0 ∧ nextL [ta1] [sc1] 2 = [4, 9] := by
  obtain ⟨h1, h2, h3⟩ := ex_of
  have ha : aboveE [ta1] [sc1] 2 = 0 := sideE_skip (by rw [h3]; rfl)
  have hb : belowE [ta1] [sc1] 2 = 0 := sideE_skip (by rw [h3]; rfl)
  have hp := (preE_4 h1 (by rw [h2, h3]; exact ex_mov) ha).trans hb
  have e := nextE_0 hp (by rw [ex_come]; decide)
  refine ⟨e, ?_⟩
  rw [nextL_ok e, ex_come, ← insAllI_eq]; decide
theorem sane_eq : g_law42_sane = some true := by
  refine WP.eq ?_
  unfold g_law42_sane
  refine WP.bd (level_eq (by simp)) ?_
  refine WP.bd (r := ([⟨4, 51⟩, ⟨9, 50⟩], 0)) ?_ ?_
  · refine (gprizes_eq (by simp [levelT]) (by simp)).trans ?_
    show some (if fitS ta1 sc1 = 0 then srtP (payU ta1 sc1) else [], fitS ta1 sc1) = _
    rw [ex_fit, ex_pay2]; rfl
  refine WP.bd (r := ([4, 9], 0)) ?_ ?_
  · refine (next_eq (by simp) (by simp) (by simp [levelT]) (by simp)).trans ?_
    show some (nextL [ta1] [sc1] 2, nextE [ta1] [sc1] 2) = _
    rw [ex_next.1, ex_next.2]
  refine WP.bd (r := ([], 420)) ?_ ?_
  · refine (next_eq (by simp) (by simp) (by simp) (by simp)).trans ?_
    have e : nextE [] [] 0 = 420 := err_1 (by decide)
    rw [nextL_nil e (by omega), e]
  refine WP.bd (r := ([], 1)) ?_ ?_
  · refine (gprizes_eq (by simp) (by simp)).trans ?_
    show some (if fitS ⟨0, 0, []⟩ sc1 = 0 then srtP (payU ⟨0, 0, []⟩ sc1) else [], fitS ⟨0, 0, []⟩ sc1) = _
    have e : fitS ⟨0, 0, []⟩ sc1 = 1 := by decide
    rw [e]; rfl
  refine WP.bd (r := ([], [], 420)) ?_ ?_
  · refine (moves_eq (by simp [levelT]) (by simp)).trans ?_
    show some (upM ta1 sc2, downM ta1 sc2, movE ta1 sc2) = _
    have e : movE ta1 sc2 = 420 := by decide
    rw [upM_nil (by omega), downM_nil (by omega), e]
  refine WP.iteN (fun h => absurd rfl h) (fun _ => ?_)
  refine WP.iteN (fun h => absurd rfl h) (fun _ => ?_)
  refine WP.iteN (fun h => absurd rfl h) (fun _ => ?_)
  refine WP.bd (r := 1) ((tcheck_eq (by simp)).trans (by rfl)) ?_
  refine WP.iteN (fun h => absurd rfl h) (fun _ => ?_)
  refine WP.iteE (fun h => by cases h) (fun _ => ?_)
  rw [show ((((([] : List Int), ([] : List Int), (420 : Int)) : List Int × List Int × Int).2.2 != 420)) = false by rfl]
  unfold g_law42_sane_j1
  refine WP.iteF ?_
  refine WP.bdW ((same_eq (by simp)).mono fun z hz => ?_)
  rw [hz.2 rfl]
  refine WP.iteT ?_
  refine WP.bdW ((sameInts_eq (by simp)).mono fun z hz => ?_)
  rw [hz.2 rfl]
  refine WP.iteT ?_
  refine WP.bd (r := 0) ((pcheck_eq (by simp)).trans (by rfl)) ?_
  refine WP.iteE (fun _ => ?_) (fun h => absurd rfl h)
  refine WP.bd (r := 420) ((pcheck_eq (by simp)).trans (by rfl)) ?_
  refine WP.iteE (fun _ => ?_) (fun h => absurd rfl h)
  refine WP.bd (r := 420) ((pcheck_eq (by simp)).trans (by rfl)) ?_
  exact WP.ret rfl
/-! ### the statements -/
theorem nextL_len {ts : List Tab} {ss : List Sch} {c : Int} (h : ∀ t ∈ ts, t.l.length ≤ 30) : (nextL ts ss c).length ≤ 90 := by
  unfold nextL; split
  · simp
  · rw [srtI_length]; exact comeL_len h
end Go.Proofs.Ytoiiblkncbnlaaa

/-
  Chapter 42: every club is in exactly one league of the next season, plainly. Conditions: those of each theorem.
-/
set_option linter.unusedVariables false
set_option linter.unusedSimpArgs false
namespace Go.Proofs.Ytoiiblkncbnlaaa
open Go.DL
set_option maxHeartbeats 4000000
abbrev Lea := Tab × Sch
theorem fm_perm {α β : Type} (f g : α → List β) : ∀ l : List α, (l.flatMap fun x => f x ++ g x).Perm (l.flatMap f ++ l.flatMap g)
  | [] => by simp
  | x :: l => by
    have ih := fm_perm f g l
    simp only [List.flatMap_cons]
    rw [List.append_assoc, List.append_assoc]
    refine List.Perm.append_left _ ?_
    refine (ih.append_left _).trans ?_
    rw [← List.append_assoc, ← List.append_assoc]
    exact List.Perm.append_right _ List.perm_append_comm
theorem fm_congr {α β : Type} {f g : α → List β} : ∀ {l : List α}, (∀ x ∈ l, (f x).Perm (g x)) → (l.flatMap f).Perm (l.flatMap g)
  | [], _ => by simp
  | x :: l, h => by
    simp only [List.flatMap_cons]
    exact (h x (by simp)).append (fm_congr fun y hy => h y (by simp [hy]))
theorem fm_perml {α β : Type} (f : α → List β) {l m : List α} (h : l.Perm m) : (l.flatMap f).Perm (m.flatMap f) := by
  induction h with
  | nil => exact List.Perm.refl _
  | cons x _ ih => simp only [List.flatMap_cons]; exact ih.append_left _
  | swap x y l => simp only [List.flatMap_cons, ← List.append_assoc]; exact List.Perm.append_right _ List.perm_append_comm
  | trans _ _ h1 h2 => exact h1.trans h2
theorem fm_filter {α β : Type} {f : α → List β} {p : α → Bool} : ∀ {l : List α}, (∀ x ∈ l, p x = false → f x = []) → (l.filter p).flatMap f = l.flatMap f
  | [], _ => by simp
  | x :: l, h => by
    have ih := fm_filter (f := f) (p := p) (l := l) fun y hy => h y (by simp [hy])
    rw [List.filter_cons]
    cases hp : p x
    · simp [hp, ih, List.flatMap_cons, h x (by simp) hp]
    · simp [hp, ih, List.flatMap_cons]
theorem nodup_of_map' {α β : Type} (f : α → β) {l : List α} (h : (l.map f).Nodup) : l.Nodup := by
  have h1 := List.pairwise_map.1 h
  exact h1.imp fun hne e => hne (by rw [e])
/-! ### one league -/
theorem stays_iff {t : Tab} {s : Sch} {x : Int} : stays t s x = true ↔ x ∉ upM t s ∧ x ∉ downM t s := by
  unfold stays
  rw [Bool.and_eq_true]
  simp
theorem mem_take_at {l : List Int} (hn : l.Nodup) {i u : Nat} {x : Int} (hx : l[i]? = some x) : x ∈ l.take u ↔ i < u := by
  constructor
  · intro h
    obtain ⟨j, hj⟩ := List.mem_iff_getElem?.1 h
    have h1 := (List.getElem?_eq_some_iff.1 hj).1
    rw [List.length_take] at h1
    rw [List.getElem?_take_of_lt (by omega)] at hj
    obtain ⟨a1, a2⟩ := List.getElem?_eq_some_iff.1 hx
    obtain ⟨b1, b2⟩ := List.getElem?_eq_some_iff.1 hj
    have := (List.getElem_inj hn).1 (a2.trans b2.symm)
    omega
  · intro h
    exact List.mem_of_getElem? (i := i) (by rw [List.getElem?_take_of_lt h]; exact hx)
theorem mem_drop_at {l : List Int} (hn : l.Nodup) {i u : Nat} {x : Int} (hx : l[i]? = some x) : x ∈ l.drop u ↔ u ≤ i := by
  constructor
  · intro h
    obtain ⟨j, hj⟩ := List.mem_iff_getElem?.1 h
    rw [List.getElem?_drop] at hj
    obtain ⟨a1, a2⟩ := List.getElem?_eq_some_iff.1 hx
    obtain ⟨b1, b2⟩ := List.getElem?_eq_some_iff.1 hj
    have := (List.getElem_inj hn).1 (a2.trans b2.symm)
    omega
  · intro h
    exact List.mem_of_getElem? (i := i - u) (by rw [List.getElem?_drop, show u + (i - u) = i by omega]; exact hx)
theorem league_perm {t : Tab} {s : Sch} (h : movE t s = 0) : (t.l.map clubOf).Perm (downM t s ++ (upM t s ++ restL t s)) := by
  obtain ⟨hf, hchk⟩ := movE_chk h
  have hr := fit_ranges hf
  have hud : s.u + s.d ≤ (t.l.length : Int) := by
    by_cases h3 : s.u + s.d > (t.l.length : Int)
    · rw [movE_420 hf h3] at h; cases h
    · omega
  have hnd := chk_nodup hchk
  obtain ⟨L, hL⟩ : ∃ L, L = t.l.map clubOf := ⟨_, rfl⟩
  rw [← hL] at hnd ⊢
  have hLl : L.length = t.l.length := by rw [hL, List.length_map]
  have eu : upM t s = srtI (L.take s.u.toNat) := by rw [upM_ok h, clubsL, List.map_take, hL]
  have ed : downM t s = srtI (L.drop (t.l.length - s.d.toNat)) := by rw [downM_ok h, clubsL, List.map_drop, hL]
  have mU : ∀ x, x ∈ upM t s ↔ x ∈ L.take s.u.toNat := fun x => by rw [eu]; exact (srtI_perm _).mem_iff
  have mW : ∀ x, x ∈ downM t s ↔ x ∈ L.drop (t.l.length - s.d.toNat) := fun x => by rw [ed]; exact (srtI_perm _).mem_iff
  have nU : (upM t s).Nodup := by rw [eu]; exact (srtI_perm _).nodup_iff.2 (hnd.sublist (List.take_sublist _ _))
  have nW : (downM t s).Nodup := by rw [ed]; exact (srtI_perm _).nodup_iff.2 (hnd.sublist (List.drop_sublist _ _))
  have disj : ∀ x, x ∈ upM t s → x ∈ downM t s → False := fun x h3 h4 => by
    rw [mU] at h3
    rw [mW] at h4
    obtain ⟨i, hi⟩ := List.mem_iff_getElem?.1 (List.mem_of_mem_take h3)
    have a1 := (mem_take_at hnd hi).1 h3
    have a2 := (mem_drop_at hnd hi).1 h4
    omega
  have mR : ∀ x, x ∈ restL t s ↔ x ∈ L ∧ x ∉ upM t s ∧ x ∉ downM t s := fun x => by
    unfold restL
    rw [← hL, List.mem_filter, stays_iff]
  have nR : (restL t s).Nodup := by unfold restL; rw [← hL]; exact hnd.filter _
  refine (List.perm_ext_iff_of_nodup hnd ?_).2 fun x => ?_
  · rw [List.nodup_append]
    refine ⟨nW, ?_, fun a ha b hb e => ?_⟩
    · rw [List.nodup_append]
      refine ⟨nU, nR, fun a ha b hb e => ?_⟩
      subst e; exact ((mR a).1 hb).2.1 ha
    · subst e
      rcases List.mem_append.1 hb with hb | hb
      · exact disj a hb ha
      · exact ((mR a).1 hb).2.2 ha
  · rw [List.mem_append, List.mem_append]
    constructor
    · intro hx
      by_cases h1 : x ∈ downM t s
      · exact .inl h1
      · by_cases h2 : x ∈ upM t s
        · exact .inr (.inl h2)
        · exact .inr (.inr ((mR x).2 ⟨hx, h2, h1⟩))
    · rintro (h1 | h1 | h1)
      · exact List.mem_of_mem_drop ((mW x).1 h1)
      · exact List.mem_of_mem_take ((mU x).1 h1)
      · exact ((mR x).1 h1).1
/-! ### all leagues -/
theorem idxT_at : ∀ {l : List Tab} {j : Nat} {t : Tab} (k : Nat), (l.map (·.c)).Nodup → l[j]? = some t → idxT t.c l k = ((k + j : Nat) : Int)
  | [], j, t, k, _, h => by simp at h
  | x :: l, 0, t, k, hn, h => by
    simp at h; subst h
    rw [idxT, if_pos rfl]; simp
  | x :: l, j + 1, t, k, hn, h => by
    have h' : l[j]? = some t := by simpa using h
    have hm : t.c ∈ l.map (·.c) := List.mem_map.2 ⟨t, List.mem_of_getElem? h', rfl⟩
    have hn2 := List.nodup_cons.1 hn
    rw [idxT, if_neg (fun e => hn2.1 (by show x.c ∈ _; rw [e]; exact hm)), idxT_at (k + 1) hn2.2 h']
    omega
theorem idxS_at : ∀ {l : List Sch} {j : Nat} {t : Sch} (k : Nat), (l.map (·.c)).Nodup → l[j]? = some t → idxS t.c l k = ((k + j : Nat) : Int)
  | [], j, t, k, _, h => by simp at h
  | x :: l, 0, t, k, hn, h => by
    simp at h; subst h
    rw [idxS, if_pos rfl]; simp
  | x :: l, j + 1, t, k, hn, h => by
    have h' : l[j]? = some t := by simpa using h
    have hm : t.c ∈ l.map (·.c) := List.mem_map.2 ⟨t, List.mem_of_getElem? h', rfl⟩
    have hn2 := List.nodup_cons.1 hn
    rw [idxS, if_neg (fun e => hn2.1 (by show x.c ∈ _; rw [e]; exact hm)), idxS_at (k + 1) hn2.2 h']
    omega
section
variable {ts : List Tab} {ss : List Sch}
theorem of_at (hn : (ts.map (·.c)).Nodup) (he : ss.map (·.c) = ts.map (·.c)) {p : Lea} (hp : p ∈ ts.zip ss) : p.2.c = p.1.c ∧ ofB ts ss p.2.c = true ∧ ofT ts ss p.2.c = p.1 ∧ ofS ts ss p.2.c = p.2 := by
  obtain ⟨j, hj⟩ := List.mem_iff_getElem?.1 hp
  rw [List.getElem?_zip_eq_some] at hj
  obtain ⟨h1, h2⟩ := hj
  have e1 : p.2.c = p.1.c := by
    have a1 : (ss.map (·.c))[j]? = some p.2.c := by rw [List.getElem?_map, h2]; rfl
    have a2 : (ts.map (·.c))[j]? = some p.1.c := by rw [List.getElem?_map, h1]; rfl
    rw [he, a2] at a1; exact (Option.some.inj a1).symm
  have i1 := idxT_at 0 hn h1
  have i2 := idxS_at 0 (by rw [he]; exact hn) h2
  rw [e1] at i2
  have hb : ofB ts ss p.1.c = true := ofB_yes (by rw [i1]; omega) (by rw [i2]; omega)
  rw [e1]
  exact ⟨rfl, hb, ofT_yes hb (by rw [i1]; simpa using h1), ofS_yes hb (by rw [i2]; simpa using h2)⟩
/-- The league with a number. -/
def lea (ts : List Tab) (ss : List Sch) (n : Int) : Lea := (ofT ts ss n, ofS ts ss n)
theorem lea_at (hn : (ts.map (·.c)).Nodup) (he : ss.map (·.c) = ts.map (·.c)) {p : Lea} (hp : p ∈ ts.zip ss) : lea ts ss p.2.c = p := by
  obtain ⟨_, _, h1, h2⟩ := of_at hn he hp
  unfold lea; rw [h1, h2]
/-- Each league above and below another one says so itself. -/
def Says (L : List Lea) : Prop := ∀ p ∈ L, (p.2.ab ≠ -1 → ∃ q ∈ L, q.2.c = p.2.ab ∧ q.2.be = p.2.c) ∧ (p.2.be ≠ -1 → ∃ q ∈ L, q.2.c = p.2.be ∧ q.2.ab = p.2.c)
theorem comps_nodup (hn : (ts.map (·.c)).Nodup) (he : ss.map (·.c) = ts.map (·.c)) : ((ts.zip ss).map fun p => p.2.c).Nodup := by
  have hl : ss.length = ts.length := by have := congrArg List.length he; simpa using this
  have e : ((ts.zip ss).map fun p => p.2.c) = ss.map (·.c) := by
    rw [show (fun p : Lea => p.2.c) = (fun s : Sch => s.c) ∘ (fun p : Lea => p.2) from rfl, ← List.map_map, show (ts.zip ss).map (fun p : Lea => p.2) = ss from List.map_snd_zip (by omega)]
  rw [e, he]; exact hn
theorem falls_perm (hn : (ts.map (·.c)).Nodup) (he : ss.map (·.c) = ts.map (·.c)) (hs : Says (ts.zip ss)) (h0 : ∀ p ∈ ts.zip ss, 0 ≤ p.2.c) :
    (((ts.zip ss).filter fun p => !(p.2.ab == -1)).map fun p => lea ts ss p.2.ab).Perm ((ts.zip ss).filter fun p => !(p.2.be == -1)) := by
  have hc := comps_nodup hn he
  have key : ∀ p ∈ ts.zip ss, p.2.ab ≠ -1 → lea ts ss p.2.ab ∈ ts.zip ss ∧ (lea ts ss p.2.ab).2.be = p.2.c := fun p hp hne => by
    obtain ⟨q, hq, h1, h2⟩ := (hs p hp).1 hne
    rw [← h1, lea_at hn he hq]; exact ⟨hq, h2⟩
  refine (List.perm_ext_iff_of_nodup ?_ ?_).2 fun q => ?_
  · refine nodup_of_map' (fun q : Lea => q.2.be) ?_
    rw [List.map_map]
    have e : (((ts.zip ss).filter fun p => !(p.2.ab == -1)).map ((fun q : Lea => q.2.be) ∘ fun p => lea ts ss p.2.ab)) = ((ts.zip ss).filter fun p => !(p.2.ab == -1)).map fun p => p.2.c := by
      refine List.map_congr_left fun p hp => ?_
      obtain ⟨h1, h2⟩ := List.mem_filter.1 hp
      exact (key p h1 (by simpa using h2)).2
    rw [e]
    exact hc.sublist (List.filter_sublist.map _)
  · exact (nodup_of_map' _ hc).filter _
  · rw [List.mem_map, List.mem_filter]
    constructor
    · rintro ⟨p, hp, rfl⟩
      obtain ⟨h1, h2⟩ := List.mem_filter.1 hp
      obtain ⟨h3, h4⟩ := key p h1 (by simpa using h2)
      have := h0 p h1
      exact ⟨h3, by rw [h4]; simp; omega⟩
    · rintro ⟨hq, hb⟩
      obtain ⟨p, hp, h1, h2⟩ := (hs q hq).2 (by simpa using hb)
      have := h0 q hq
      exact ⟨p, List.mem_filter.2 ⟨hp, by rw [h2]; simp; omega⟩, by rw [h2]; exact lea_at hn he hq⟩
theorem rises_perm (hn : (ts.map (·.c)).Nodup) (he : ss.map (·.c) = ts.map (·.c)) (hs : Says (ts.zip ss)) (h0 : ∀ p ∈ ts.zip ss, 0 ≤ p.2.c) :
    (((ts.zip ss).filter fun p => !(p.2.be == -1)).map fun p => lea ts ss p.2.be).Perm ((ts.zip ss).filter fun p => !(p.2.ab == -1)) := by
  have hc := comps_nodup hn he
  have key : ∀ p ∈ ts.zip ss, p.2.be ≠ -1 → lea ts ss p.2.be ∈ ts.zip ss ∧ (lea ts ss p.2.be).2.ab = p.2.c := fun p hp hne => by
    obtain ⟨q, hq, h1, h2⟩ := (hs p hp).2 hne
    rw [← h1, lea_at hn he hq]; exact ⟨hq, h2⟩
  refine (List.perm_ext_iff_of_nodup ?_ ?_).2 fun q => ?_
  · refine nodup_of_map' (fun q : Lea => q.2.ab) ?_
    rw [List.map_map]
    have e : (((ts.zip ss).filter fun p => !(p.2.be == -1)).map ((fun q : Lea => q.2.ab) ∘ fun p => lea ts ss p.2.be)) = ((ts.zip ss).filter fun p => !(p.2.be == -1)).map fun p => p.2.c := by
      refine List.map_congr_left fun p hp => ?_
      obtain ⟨h1, h2⟩ := List.mem_filter.1 hp
      exact (key p h1 (by simpa using h2)).2
    rw [e]
    exact hc.sublist (List.filter_sublist.map _)
  · exact (nodup_of_map' _ hc).filter _
  · rw [List.mem_map, List.mem_filter]
    constructor
    · rintro ⟨p, hp, rfl⟩
      obtain ⟨h1, h2⟩ := List.mem_filter.1 hp
      obtain ⟨h3, h4⟩ := key p h1 (by simpa using h2)
      have := h0 p h1
      exact ⟨h3, by rw [h4]; simp; omega⟩
    · rintro ⟨hq, hb⟩
      obtain ⟨p, hp, h1, h2⟩ := (hs q hq).1 (by simpa using hb)
      have := h0 q hq
      exact ⟨p, List.mem_filter.2 ⟨hp, by rw [h2]; simp; omega⟩, by rw [h2]; exact lea_at hn he hq⟩
theorem next_mov {c : Int} (h : nextE ts ss c = 0) : movE (ofT ts ss c) (ofS ts ss c) = 0 := by
  have hp : preE ts ss c = 0 := by
    by_cases h1 : preE ts ss c = 0
    · exact h1
    · rw [nextE_pre rfl h1] at h; exact absurd h h1
  by_cases hb : ofB ts ss c = true
  · by_cases hm : movE (ofT ts ss c) (ofS ts ss c) = 0
    · exact hm
    · rw [preE_2 hb hm] at hp; exact absurd hp hm
  · rw [preE_1 (by simpa using hb)] at hp; cases hp
theorem mov_facts {t : Tab} {s : Sch} (h : movE t s = 0) : 0 ≤ s.c ∧ (s.ab = -1 → upM t s = []) ∧ (s.be = -1 → downM t s = []) := by
  obtain ⟨hf, _⟩ := movE_chk h
  obtain ⟨_, h2, _⟩ := fitS_ok hf
  rcases chkS_cases s with h3 | ⟨_, h3, h4, _⟩
  · omega
  · unfold headS at h3
    unfold tailS at h4
    refine ⟨h3.1, fun h5 => ?_, fun h5 => ?_⟩
    · rw [upM_ok h, h4.2.2.2.2.2.2.2.1 h5, clubsL, ← insAllI_eq]; rfl
    · rw [downM_ok h, h4.2.2.2.2.2.2.2.2 h5, show t.l.length - (0 : Int).toNat = t.l.length by simp, List.drop_length, clubsL, ← insAllI_eq]; rfl
/-- The clubs of the next season are those of this one. -/
theorem conserve_perm (hn : (ts.map (·.c)).Nodup) (he : ss.map (·.c) = ts.map (·.c)) (hs : Says (ts.zip ss)) (hx : ∀ t ∈ ts, nextE ts ss t.c = 0) :
    (ts.flatMap fun t => nextL ts ss t.c).Perm (ts.flatMap fun t => t.l.map clubOf) := by
  have hl : ss.length = ts.length := by have := congrArg List.length he; simpa using this
  have efst : (ts.zip ss).map (fun p : Lea => p.1) = ts := List.map_fst_zip (by omega)
  have fz : ∀ f : Tab → List Int, ts.flatMap f = (ts.zip ss).flatMap fun p => f p.1 := fun f => by
    conv => lhs; rw [← efst]
    rw [List.flatMap_map]
  rw [fz, fz]
  have hat : ∀ p ∈ ts.zip ss, p.2.c = p.1.c ∧ ofT ts ss p.2.c = p.1 ∧ ofS ts ss p.2.c = p.2 := fun p hp => by
    obtain ⟨h1, _, h2, h3⟩ := of_at hn he hp
    exact ⟨h1, h2, h3⟩
  have hmov : ∀ p ∈ ts.zip ss, movE p.1 p.2 = 0 := fun p hp => by
    obtain ⟨h1, h2, h3⟩ := hat p hp
    have h4 := next_mov (hx p.1 (List.of_mem_zip hp).1)
    rw [← h1, h2, h3] at h4; exact h4
  have h0 : ∀ p ∈ ts.zip ss, 0 ≤ p.2.c := fun p hp => (mov_facts (hmov p hp)).1
  -- the next season
  have e1 : ((ts.zip ss).flatMap fun p => nextL ts ss p.1.c).Perm ((ts.zip ss).flatMap fun p => aboveL ts ss p.2.ab ++ (belowL ts ss p.2.be ++ restL p.1 p.2)) := by
    refine fm_congr fun p hp => ?_
    obtain ⟨h1, h2, h3⟩ := hat p hp
    rw [nextL_ok (hx p.1 (List.of_mem_zip hp).1)]
    refine (srtI_perm _).trans ?_
    unfold comeL
    rw [← h1, h2, h3, List.append_assoc]
  have e2 : ((ts.zip ss).flatMap fun p => aboveL ts ss p.2.ab).Perm ((ts.zip ss).flatMap fun p => downM p.1 p.2) := by
    rw [← fm_filter (p := fun p : Lea => !(p.2.ab == -1)) (f := fun p => aboveL ts ss p.2.ab) (fun p _ h => by
      have h1 : p.2.ab = -1 := by simpa using h
      rw [aboveL, if_pos h1])]
    rw [← fm_filter (p := fun p : Lea => !(p.2.be == -1)) (f := fun p : Lea => downM p.1 p.2) (fun p hp h => by
      have h1 : p.2.be = -1 := by simpa using h
      exact (mov_facts (hmov p hp)).2.2 h1)]
    refine List.Perm.trans ?_ (fm_perml _ (falls_perm hn he hs h0))
    rw [List.flatMap_map]
    refine fm_congr fun p hp => ?_
    have h1 : p.2.ab ≠ -1 := by simpa using (List.mem_filter.1 hp).2
    rw [aboveL, if_neg h1]
    exact List.Perm.refl _
  have e3 : ((ts.zip ss).flatMap fun p => belowL ts ss p.2.be).Perm ((ts.zip ss).flatMap fun p => upM p.1 p.2) := by
    rw [← fm_filter (p := fun p : Lea => !(p.2.be == -1)) (f := fun p => belowL ts ss p.2.be) (fun p _ h => by
      have h1 : p.2.be = -1 := by simpa using h
      rw [belowL, if_pos h1])]
    rw [← fm_filter (p := fun p : Lea => !(p.2.ab == -1)) (f := fun p : Lea => upM p.1 p.2) (fun p hp h => by
      have h1 : p.2.ab = -1 := by simpa using h
      exact (mov_facts (hmov p hp)).2.1 h1)]
    refine List.Perm.trans ?_ (fm_perml _ (rises_perm hn he hs h0))
    rw [List.flatMap_map]
    refine fm_congr fun p hp => ?_
    have h1 : p.2.be ≠ -1 := by simpa using (List.mem_filter.1 hp).2
    rw [belowL, if_neg h1]
    exact List.Perm.refl _
  refine e1.trans ?_
  refine (fm_perm _ _ _).trans ?_
  refine (e2.append (fm_perm _ _ _)).trans ?_
  refine ((List.Perm.refl _).append (e3.append (List.Perm.refl _))).trans ?_
  refine ((fm_perm _ _ _).symm.append_left _ |>.trans (fm_perm _ _ _).symm).trans ?_
  exact (fm_congr fun p hp => league_perm (hmov p hp)).symm
end
end Go.Proofs.Ytoiiblkncbnlaaa

/-
  Chapter 42: the statement on the next season's clubs. Conditions: those of each theorem.
-/
set_option linter.unusedVariables false
set_option linter.unusedSimpArgs false
namespace Go.Proofs.Ytoiiblkncbnlaaa
open Go.DL
set_option maxHeartbeats 4000000
def inI (n : Int) : Prop := -9223372036854775808 ≤ n ∧ n ≤ 9223372036854775807
/-! ### maps from numbers -/
theorem lookM_ins {α : Type} {x : Int × α} (c : Int) : ∀ {l : List (Int × α)}, (∀ y ∈ l, y.1 ≠ x.1) → lookM (insM x l) c = if x.1 = c then some x.2 else lookM l c
  | [], _ => by simp [insM, lookM]
  | z :: l, hn => by
    have hz := hn z (by simp)
    unfold insM
    split
    · simp [lookM]
    · rw [lookM, lookM_ins c fun y hy => hn y (by simp [hy]), lookM]
      by_cases h1 : z.1 = c
      · rw [if_pos h1, if_pos h1, if_neg (by omega)]
      · rw [if_neg h1, if_neg h1]
theorem lookM_filter {α : Type} {l : List (Int × α)} {a c : Int} (h : a ≠ c) : lookM (l.filter fun p => !(p.1 == a)) c = lookM l c := by
  induction l with
  | nil => rfl
  | cons z l ih =>
    rw [List.filter_cons]
    by_cases h1 : z.1 = a
    · have : z.1 ≠ c := by omega
      simp only [h1, beq_self_eq_true, Bool.not_true, Bool.false_eq_true, if_false]
      rw [ih, lookM, if_neg this]
    · have : (z.1 == a) = false := by simpa using h1
      simp only [this, Bool.not_false, if_true]
      rw [lookM, lookM, ih]
theorem lookM_put {α : Type} (l : List (Int × α)) (a c : Int) (v : α) : lookM (putM l a v) c = if a = c then some v else lookM l c := by
  rw [putM, lookM_ins c (by intro y hy; have := (List.mem_filter.1 hy).2; simpa using this)]
  by_cases h : a = c
  · rw [if_pos h, if_pos h]
  · rw [if_neg h, if_neg h, lookM_filter h]
theorem insM_len {α : Type} (x : Int × α) (l : List (Int × α)) : (insM x l).length = l.length + 1 := by
  induction l with
  | nil => rfl
  | cons y r ih => rw [insM]; split <;> simp [ih]
theorem putM_len {α : Type} (l : List (Int × α)) (a : Int) (v : α) : (putM l a v).length ≤ l.length + 1 := by
  rw [putM, insM_len]
  have := List.length_filter_le (fun p : Int × α => !(p.1 == a)) l
  omega
theorem minsert_perm (x : Int × Int) (l : List (Int × Int)) : (minsert x l).Perm (x :: l) := by
  induction l with
  | nil => exact List.Perm.refl _
  | cons y r ih =>
    unfold minsert
    split
    · exact List.Perm.refl _
    · exact (ih.cons y).trans (List.Perm.swap x y r)
theorem mget_ins {x : Int × Int} (c : Int) : ∀ {l : List (Int × Int)}, (∀ y ∈ l, y.1 ≠ x.1) → mget (minsert x l) c = if x.1 = c then x.2 else mget l c
  | [], _ => by simp [minsert, mget]
  | z :: l, hn => by
    have hz := hn z (by simp)
    unfold minsert
    split
    · simp [mget]
    · rw [mget, mget_ins c fun y hy => hn y (by simp [hy]), mget]
      by_cases h1 : z.1 = c
      · rw [if_pos h1, if_pos h1, if_neg (by omega)]
      · rw [if_neg h1, if_neg h1]
theorem mget_filter {l : List (Int × Int)} {a c : Int} (h : a ≠ c) : mget (l.filter fun p => !(p.1 == a)) c = mget l c := by
  induction l with
  | nil => rfl
  | cons z l ih =>
    rw [List.filter_cons]
    by_cases h1 : z.1 = a
    · have : z.1 ≠ c := by omega
      simp only [h1, beq_self_eq_true, Bool.not_true, Bool.false_eq_true, if_false]
      rw [ih, mget, if_neg this]
    · have : (z.1 == a) = false := by simpa using h1
      simp only [this, Bool.not_false, if_true]
      rw [mget, mget, ih]
theorem filter_off {l : List (Int × Int)} {a : Int} : ∀ y ∈ l.filter (fun p => !(p.1 == a)), y.1 ≠ a := by
  intro y hy
  have := (List.mem_filter.1 hy).2
  simpa using this
theorem mget_put (l : List (Int × Int)) (a v c : Int) : mget (mput l a v) c = if a = c then v else mget l c := by
  rw [mput, mget_ins c (by exact filter_off)]
  by_cases h : a = c
  · rw [if_pos h, if_pos h]
  · rw [if_neg h, if_neg h, mget_filter h]
/-- How often each number has come. -/
structure Cnt (m : List (Int × Int)) (L : List Int) : Prop where
  get : ∀ c, mget m c = (L.count c : Int)
  nod : (m.map (·.1)).Nodup
  mem : ∀ x, x ∈ m.map (·.1) ↔ x ∈ L
  len : m.length ≤ L.length
theorem Cnt.nil : Cnt [] [] := ⟨fun c => by simp [mget], by simp, by simp, by simp⟩
theorem Cnt.snoc {m : List (Int × Int)} {L : List Int} (h : Cnt m L) (x : Int) : Cnt (mput m x (mget m x + 1)) (L ++ [x]) := by
  have hp : ((mput m x (mget m x + 1)).map (·.1)).Perm (x :: (m.filter fun p => !(p.1 == x)).map (·.1)) := by
    have := (minsert_perm (x, mget m x + 1) (m.filter fun p => !(p.1 == x))).map (·.1)
    simpa [mput] using this
  have hx : x ∉ (m.filter fun p => !(p.1 == x)).map (·.1) := fun hc => by
    obtain ⟨y, hy, he⟩ := List.mem_map.1 hc
    exact filter_off y hy he
  refine ⟨fun c => ?_, ?_, fun y => ?_, ?_⟩
  · rw [mget_put, h.get, List.count_append, List.count_singleton, h.get]
    by_cases hc : x = c
    · subst hc; simp
    · rw [if_neg hc]; simp [hc]
  · rw [hp.nodup_iff, List.nodup_cons]
    exact ⟨hx, h.nod.sublist (List.filter_sublist.map _)⟩
  · rw [hp.mem_iff, List.mem_cons, List.mem_append, List.mem_singleton, ← h.mem y]
    constructor
    · rintro (h1 | h1)
      · exact .inr h1
      · obtain ⟨z, hz, rfl⟩ := List.mem_map.1 h1
        exact .inl (List.mem_map.2 ⟨z, (List.mem_filter.1 hz).1, rfl⟩)
    · rintro (h1 | h1)
      · by_cases hy : y = x
        · exact .inl hy
        · obtain ⟨z, hz, rfl⟩ := List.mem_map.1 h1
          exact .inr (List.mem_map.2 ⟨z, List.mem_filter.2 ⟨hz, by simpa using hy⟩, rfl⟩)
      · exact .inl h1
  · have h1 := hp.length_eq
    simp only [List.length_map, List.length_cons] at h1
    have h2 := List.length_filter_le (fun p : Int × Int => !(p.1 == x)) m
    have := h.len
    rw [List.length_append, List.length_singleton]; omega
theorem rangeO_all {σ ρ : Type} {step : Int → σ → Option (σ ⊕ ρ)} {fin : σ → Option ρ} {x : σ} : ∀ {ks : List Int}, (∀ c ∈ ks, step c x = some (.inl x)) → rangeO step fin ks x = fin x
  | [], _ => rfl
  | k :: ks, h => by
    rw [rangeO, h k (by simp)]
    exact rangeO_all fun c hc => h c (by simp [hc])
section
variable {ts : List Tab} {ss : List Sch}
theorem ofT_mem (n : Int) : ofT ts ss n ∈ ts ∨ ofT ts ss n = tab0 := by
  unfold ofT; split
  · rw [List.getD]
    cases hg : ts[(idxT n ts 0).toNat]? with
    | none => exact .inr rfl
    | some x => exact .inl (List.mem_of_getElem? hg)
  · exact .inr rfl
theorem nextL_in {P : Int → Prop} (h : ∀ t ∈ ts, ∀ p ∈ t.l, P p.r.c) (c : Int) : ∀ x ∈ nextL ts ss c, P x := by
  have hT : ∀ n, ∀ x ∈ (ofT ts ss n).l.map clubOf, P x := fun n x hx => by
    obtain ⟨p, hp, rfl⟩ := List.mem_map.1 hx
    rcases ofT_mem (ss := ss) (ts := ts) n with h1 | h1
    · exact h _ h1 p hp
    · rw [h1] at hp; simp [tab0] at hp
  have hD : ∀ n, ∀ x ∈ downM (ofT ts ss n) (ofS ts ss n), P x := fun n x hx => by
    by_cases hm : movE (ofT ts ss n) (ofS ts ss n) = 0
    · exact hT n x (downM_sub hm x hx)
    · rw [downM_nil hm] at hx; simp at hx
  have hU : ∀ n, ∀ x ∈ upM (ofT ts ss n) (ofS ts ss n), P x := fun n x hx => by
    by_cases hm : movE (ofT ts ss n) (ofS ts ss n) = 0
    · exact hT n x (upM_sub hm x hx)
    · rw [upM_nil hm] at hx; simp at hx
  intro x hx
  unfold nextL at hx
  split at hx
  · simp at hx
  · have h1 := (srtI_perm _).mem_iff.1 hx
    unfold comeL at h1
    rw [List.mem_append, List.mem_append] at h1
    rcases h1 with (h1 | h1) | h1
    · unfold aboveL at h1
      split at h1
      · simp at h1
      · exact hD _ x h1
    · unfold belowL at h1
      split at h1
      · simp at h1
      · exact hU _ x h1
    · exact hT c x (List.mem_filter.1 h1).1
/-- The last look: each club once, and no other. -/
theorem cons_j4 {m : List (Int × Int)} {N A : List Int} (hc : Cnt m N) (hp : N.Perm A) (hA : A.Nodup) (hr : ∀ x ∈ A, inI x) : WP (g_law42_PrizesConserve_j4 (setL A) m) (fun z => z = true) := by
  obtain ⟨f1, f2, f3, f4⟩ := setL_facts A
  have hN : N.Nodup := hp.nodup_iff.2 hA
  unfold g_law42_PrizesConserve_j4
  refine WP.ck (f1.imp fun h => by omega) ?_
  refine WP.of (allO_of (r := true) fun ks hks => ?_) rfl
  rw [rangeO_all fun c hcm => ?_]
  · unfold g_law42_PrizesConserve_j5
    have h1 : (m.map (·.1)).Perm N := (List.perm_ext_iff_of_nodup hc.nod hN).2 hc.mem
    have h2 := h1.length_eq
    rw [List.length_map] at h2
    have h3 := hp.length_eq
    have h4 := f4.2 hA
    rw [h2, h3, h4]; simp
  · have hcA : c ∈ A := (f2 c).1 (hks.mem_iff.1 hcm)
    have hci := hr c hcA
    have hcnt : mget m c = 1 := by
      rw [hc.get, hp.count_eq, hA.count, if_pos hcA]; rfl
    rw [ckI_pos hci.1 hci.2, hcnt]; rfl
theorem cons_j3 (hfew : Few ts ss) (hn : (ts.map (·.c)).Nodup) (he : ss.map (·.c) = ts.map (·.c)) (hs : Says (ts.zip ss)) (hA : (ts.flatMap fun t => t.l.map clubOf).Nodup) (hT : ∀ t ∈ ts, ∀ p ∈ t.l, inI p.r.c) :
    WP (g_law42_PrizesConserve_j3 ts ss (setL (ts.flatMap fun t => t.l.map clubOf))) (fun z => z = true) := by
  obtain ⟨h1, h2, h3, h4⟩ := hfew
  unfold g_law42_PrizesConserve_j3
  refine WP.loop (fun v => v.1 ≤ ts.length ∧ Cnt v.2 ((ts.take v.1).flatMap fun t => nextL ts ss t.c) ∧ ((ts.take v.1).flatMap fun t => nextL ts ss t.c).length ≤ 90 * v.1 ∧ ∀ t ∈ ts.take v.1, nextE ts ss t.c = 0) (fun v => ts.length - v.1) ?_ ⟨by simp, by simpa using Cnt.nil, by simp, by simp⟩
  rintro ⟨i, m⟩ ⟨hi, ic, il, ix⟩
  dsimp only at hi ic il ix ⊢
  simp only [g_law42_PrizesConserve_l6]
  refine WP.iteD (fun hlt => ?_) (fun hlt => ?_)
  · obtain ⟨x, hx⟩ : ∃ x, ts[i]? = some x := ⟨_, List.getElem?_eq_getElem (by omega)⟩
    rw [gn_some hx]
    refine WP.bd (next_eq (by omega) (by omega) h3 h4) ?_
    refine WP.iteN (fun h => ?_) (fun h => ?_)
    · exact WP.up (WP.ret rfl)
    dsimp only at h
    have hnl := nextL_len (ss := ss) (c := x.c) h3
    refine WP.loop (fun v => v.1 ≤ (nextL ts ss x.c).length ∧ Cnt v.2 (((ts.take i).flatMap fun t => nextL ts ss t.c) ++ (nextL ts ss x.c).take v.1)) (fun v => (nextL ts ss x.c).length - v.1) ?_ ⟨by simp, by simpa using ic⟩
    rintro ⟨k, m2⟩ ⟨hk, ik⟩
    dsimp only at hk ik ⊢
    simp only [g_law42_PrizesConserve_l8]
    refine WP.iteD (fun hlt2 => ?_) (fun hlt2 => ?_)
    · obtain ⟨y, hy⟩ : ∃ y, (nextL ts ss x.c)[k]? = some y := ⟨_, List.getElem?_eq_getElem (by omega)⟩
      rw [gn_some hy]
      have hyi : inI y := nextL_in hT x.c y (List.mem_of_getElem? hy)
      have hlen : (((ts.take i).flatMap fun t => nextL ts ss t.c) ++ (nextL ts ss x.c).take k).length ≤ 1000 := by
        rw [List.length_append, List.length_take]; omega
      have hcy : (((ts.take i).flatMap fun t => nextL ts ss t.c) ++ (nextL ts ss x.c).take k).count y ≤ 1000 := Nat.le_trans List.count_le_length hlen
      have hg := ik.get y
      have hml := ik.len
      refine WP.ckI hyi ?_
      refine WP.ckI (by omega) ?_
      refine WP.ckI (by omega) ?_
      refine WP.ck (by simp only [maxLen]; omega) ?_
      (repeat' (first | with_reducible (first | refine WP.iteT ?_ | refine WP.iteF ?_ | refine WP.iteNb ?_ | refine WP.iteD (fun _ => ?_) (fun _ => ?_) | refine WP.iteE (fun _ => ?_) (fun _ => ?_) | refine WP.iteN (fun _ => ?_) (fun _ => ?_) | refine WP.iteB (fun _ => ?_) (fun _ => ?_)) | (with_reducible refine WP.ckI ?_ ?_; · omega) | (with_reducible refine WP.gn ?_ (fun _ _ => ?_); · omega) | (with_reducible refine WP.gt ?_ (fun _ _ => ?_); · omega) | with_reducible (first | refine WP.up ?_ | refine WP.letO ?_ | refine WP.ret ?_)))
      refine ⟨⟨by dsimp only; omega, ?_⟩, by dsimp only; omega⟩
      dsimp only
      rw [take_snoc hy, ← List.append_assoc]
      exact ik.snoc y
    · rw [List.take_of_length_le (show (nextL ts ss x.c).length ≤ k by omega)] at ik
      refine WP.up ?_
      unfold g_law42_PrizesConserve_j7
      (repeat' (first | with_reducible (first | refine WP.iteT ?_ | refine WP.iteF ?_ | refine WP.iteNb ?_ | refine WP.iteD (fun _ => ?_) (fun _ => ?_) | refine WP.iteE (fun _ => ?_) (fun _ => ?_) | refine WP.iteN (fun _ => ?_) (fun _ => ?_) | refine WP.iteB (fun _ => ?_) (fun _ => ?_)) | (with_reducible refine WP.ckI ?_ ?_; · omega) | (with_reducible refine WP.gn ?_ (fun _ _ => ?_); · omega) | (with_reducible refine WP.gt ?_ (fun _ _ => ?_); · omega) | with_reducible (first | refine WP.up ?_ | refine WP.letO ?_ | refine WP.ret ?_)))
      have e : (ts.take (i + 1)).flatMap (fun t => nextL ts ss t.c) = ((ts.take i).flatMap fun t => nextL ts ss t.c) ++ nextL ts ss x.c := by
        rw [take_snoc hx, List.flatMap_append]; simp
      refine ⟨⟨by dsimp only; omega, ?_, ?_, ?_⟩, by dsimp only; omega⟩
      · dsimp only; rw [e]; exact ik
      · dsimp only; rw [e, List.length_append]; omega
      · exact all_snoc ix hx h
  · rw [List.take_of_length_le (by omega)] at ic ix
    refine WP.up ?_
    refine cons_j4 ic (conserve_perm hn he hs ix) hA fun x hx => ?_
    obtain ⟨t, ht, hxt⟩ := List.mem_flatMap.1 hx
    obtain ⟨p, hp, rfl⟩ := List.mem_map.1 hxt
    exact hT t ht p hp
/-- The schemes by their numbers. -/
def Sch.at (ss : List Sch) (m : List (Int × Sch)) : Prop := ∀ n x, lookM m n = some x → x ∈ ss ∧ x.c = n
theorem cons_j2 {m : List (Int × Sch)} (hfew : Few ts ss) (hn : (ts.map (·.c)).Nodup) (he : ss.map (·.c) = ts.map (·.c)) (hm : Sch.at ss m) (hT : ∀ t ∈ ts, ∀ p ∈ t.l, inI p.r.c) (hS : ∀ s ∈ ss, inI s.ab ∧ inI s.be) :
    WP (g_law42_PrizesConserve_j2 ss ts (ts.flatMap fun t => t.l.map clubOf).length m (setL (ts.flatMap fun t => t.l.map clubOf))) (fun z => z = true) := by
  obtain ⟨f1, f2, f3, f4⟩ := setL_facts (ts.flatMap fun t => t.l.map clubOf)
  have hl : ss.length = ts.length := by have := congrArg List.length he; simpa using this
  have h5 := hfew.2.1
  unfold g_law42_PrizesConserve_j2
  refine WP.iteN (fun _ => WP.ret rfl) (fun hA => ?_)
  have hA := f4.1 (by omega)
  refine WP.loop (fun i => i ≤ ss.length ∧ ∀ s ∈ ss.take i, (s.ab ≠ -1 → ∃ q ∈ ss, q.c = s.ab ∧ q.be = s.c) ∧ (s.be ≠ -1 → ∃ q ∈ ss, q.c = s.be ∧ q.ab = s.c)) (fun i => ss.length - i) ?_ ⟨by omega, by simp⟩
  rintro i ⟨hi, iv⟩
  simp only [g_law42_PrizesConserve_l9]
  refine WP.iteD (fun hlt => ?_) (fun hlt => ?_)
  · obtain ⟨x, hx⟩ : ∃ x, ss[i]? = some x := ⟨_, List.getElem?_eq_getElem (by omega)⟩
    rw [gn_some hx]
    obtain ⟨i1, i2⟩ := hS x (List.mem_of_getElem? hx)
    refine WP.ckI i1 (WP.letO (WP.letO (WP.ckI i2 (WP.letO (WP.letO ?_)))))
    have yes : WP (g_law42_PrizesConserve_j10 i ts ss m (setL (ts.flatMap fun t => t.l.map clubOf)) true) (Rnd (fun i : Nat => i ≤ ss.length ∧ ∀ s ∈ ss.take i, (s.ab ≠ -1 → ∃ q ∈ ss, q.c = s.ab ∧ q.be = s.c) ∧ (s.be ≠ -1 → ∃ q ∈ ss, q.c = s.be ∧ q.ab = s.c)) (fun i => ss.length - i) (ss.length - i) fun z => z = true) := by
      unfold g_law42_PrizesConserve_j10
      exact WP.iteT (WP.up (WP.ret rfl))
    have no : (x.ab ≠ -1 → ∃ q ∈ ss, q.c = x.ab ∧ q.be = x.c) ∧ (x.be ≠ -1 → ∃ q ∈ ss, q.c = x.be ∧ q.ab = x.c) → WP (g_law42_PrizesConserve_j10 i ts ss m (setL (ts.flatMap fun t => t.l.map clubOf)) false) (Rnd (fun i : Nat => i ≤ ss.length ∧ ∀ s ∈ ss.take i, (s.ab ≠ -1 → ∃ q ∈ ss, q.c = s.ab ∧ q.be = s.c) ∧ (s.be ≠ -1 → ∃ q ∈ ss, q.c = s.be ∧ q.ab = s.c)) (fun i => ss.length - i) (ss.length - i) fun z => z = true) := fun h => by
      unfold g_law42_PrizesConserve_j10
      refine WP.iteF ?_
      (repeat' (first | with_reducible (first | refine WP.iteT ?_ | refine WP.iteF ?_ | refine WP.iteNb ?_ | refine WP.iteD (fun _ => ?_) (fun _ => ?_) | refine WP.iteE (fun _ => ?_) (fun _ => ?_) | refine WP.iteN (fun _ => ?_) (fun _ => ?_) | refine WP.iteB (fun _ => ?_) (fun _ => ?_)) | (with_reducible refine WP.ckI ?_ ?_; · omega) | (with_reducible refine WP.gn ?_ (fun _ _ => ?_); · omega) | (with_reducible refine WP.gt ?_ (fun _ _ => ?_); · omega) | with_reducible (first | refine WP.up ?_ | refine WP.letO ?_ | refine WP.ret ?_)))
      exact ⟨⟨by omega, all_snoc iv hx h⟩, by dsimp only; omega⟩
    -- the league below
    have low : (x.ab ≠ -1 → ∃ q ∈ ss, q.c = x.ab ∧ q.be = x.c) → WP (if (x.be != (-1)) = true then (if (!((lookM m x.be).isSome)) = true then (g_law42_PrizesConserve_j10 i ts ss m (setL (ts.flatMap fun t => t.l.map clubOf)) true) else g_law42_PrizesConserve_j10 i ts ss m (setL (ts.flatMap fun t => t.l.map clubOf)) (((lookM m x.be).getD (⟨0, [], 0, 0, 0, 0⟩ : Sch)).ab != x.c)) else g_law42_PrizesConserve_j10 i ts ss m (setL (ts.flatMap fun t => t.l.map clubOf)) false) (Rnd (fun i : Nat => i ≤ ss.length ∧ ∀ s ∈ ss.take i, (s.ab ≠ -1 → ∃ q ∈ ss, q.c = s.ab ∧ q.be = s.c) ∧ (s.be ≠ -1 → ∃ q ∈ ss, q.c = s.be ∧ q.ab = s.c)) (fun i => ss.length - i) (ss.length - i) fun z => z = true) := fun ha => by
      refine WP.iteN (fun hb => ?_) (fun hb => no ⟨ha, fun h => absurd hb h⟩)
      cases hf : lookM m x.be with
      | none => exact WP.iteT yes
      | some q =>
        obtain ⟨q1, q2⟩ := hm _ _ hf
        refine WP.iteF ?_
        by_cases hq : q.ab = x.c
        · rw [show ((some q).getD (⟨0, [], 0, 0, 0, 0⟩ : Sch)).ab = q.ab from rfl, show (q.ab != x.c) = false by simpa using hq]
          exact no ⟨ha, fun _ => ⟨q, q1, q2, hq⟩⟩
        · rw [show ((some q).getD (⟨0, [], 0, 0, 0, 0⟩ : Sch)).ab = q.ab from rfl, show (q.ab != x.c) = true by simpa using hq]
          exact yes
    refine WP.iteN (fun ha => ?_) (fun ha => low fun h => absurd ha h)
    cases hf : lookM m x.ab with
    | none => exact WP.iteT yes
    | some q =>
      obtain ⟨q1, q2⟩ := hm _ _ hf
      refine WP.iteF ?_
      refine WP.iteN (fun _ => yes) (fun hq => ?_)
      exact low fun _ => ⟨q, q1, q2, hq⟩
  · rw [List.take_of_length_le (by omega)] at iv
    refine WP.up (cons_j3 hfew hn he (fun p hp => ?_) hA hT)
    have lift : ∀ q ∈ ss, ∃ r ∈ ts.zip ss, r.2 = q := fun q hq => by
      obtain ⟨j, hj⟩ := List.mem_iff_getElem?.1 hq
      have hjl := (List.getElem?_eq_some_iff.1 hj).1
      obtain ⟨t, ht⟩ : ∃ t, ts[j]? = some t := ⟨_, List.getElem?_eq_getElem (by omega)⟩
      exact ⟨(t, q), List.mem_of_getElem? (i := j) (List.getElem?_zip_eq_some.2 ⟨ht, hj⟩), rfl⟩
    obtain ⟨g1, g2⟩ := iv p.2 (List.of_mem_zip hp).2
    refine ⟨fun h => ?_, fun h => ?_⟩
    · obtain ⟨q, hq, a1, a2⟩ := g1 h
      obtain ⟨r, hr, rfl⟩ := lift q hq
      exact ⟨r, hr, a1, a2⟩
    · obtain ⟨q, hq, a1, a2⟩ := g2 h
      obtain ⟨r, hr, rfl⟩ := lift q hq
      exact ⟨r, hr, a1, a2⟩
end
theorem conserve_eq (ts : List Tab) (ss : List Sch) (hT : ∀ t ∈ ts, inI t.c ∧ ∀ p ∈ t.l, inI p.r.c) (hS : ∀ s ∈ ss, inI s.ab ∧ inI s.be) : g_law42_PrizesConserve ts ss = some true := by
  refine WP.eq ?_
  unfold g_law42_PrizesConserve
  refine WP.bd sane_eq ?_
  refine WP.iteNb (WP.iteT ?_)
  have j1t : WP (g_law42_PrizesConserve_j1 ts ss true) (fun z => z = true) := by
    unfold g_law42_PrizesConserve_j1
    exact WP.iteT (WP.ret rfl)
  refine WP.bdW ((few_eq ts ss).mono fun z hz => ?_)
  cases z
  · exact WP.iteNb (WP.iteF j1t)
  have hfew := hz.1 rfl
  refine WP.iteNb (WP.iteT ?_)
  by_cases hl : ss.length = ts.length
  · rw [show ((((ts.length : Nat) : Int) != ((ss.length : Nat) : Int))) = false by simp; omega]
    have h1 := hfew.1
    unfold g_law42_PrizesConserve_j1
    refine WP.iteF ?_
    refine WP.loop (fun v => v.2.1 ≤ ts.length ∧ v.1 = ((ts.take v.2.1).flatMap fun t => t.l.map clubOf).length ∧ v.2.2.2 = setL ((ts.take v.2.1).flatMap fun t => t.l.map clubOf) ∧ v.2.2.1.length ≤ v.2.1 ∧ ((ts.take v.2.1).map (·.c)).Nodup ∧ (ss.take v.2.1).map (·.c) = (ts.take v.2.1).map (·.c) ∧
      (∀ n x, lookM v.2.2.1 n = some x → x ∈ ss ∧ x.c = n) ∧ (∀ n, (lookM v.2.2.1 n).isSome = false → n ∉ (ts.take v.2.1).map (·.c)) ∧ v.1 ≤ 30 * v.2.1) (fun v => ts.length - v.2.1) ?_
      ⟨by simp, by simp, by simp [setL], by simp, by simp, by simp, by simp [lookM], by simp, by simp⟩
    rintro ⟨all, i, m, o⟩ ⟨hi, ia, io, im, in_, ie, ik, ik2, il⟩
    dsimp only at hi ia io im in_ ie ik ik2 il ⊢
    simp only [g_law42_PrizesConserve_l11]
    refine WP.iteD (fun hlt => ?_) (fun hlt => ?_)
    · obtain ⟨t, ht⟩ : ∃ t, ts[i]? = some t := ⟨_, List.getElem?_eq_getElem (by omega)⟩
      obtain ⟨s, hs⟩ : ∃ s, ss[i]? = some s := ⟨_, List.getElem?_eq_getElem (by omega)⟩
      obtain ⟨t1, t2⟩ := hT t (List.mem_of_getElem? ht)
      have ht30 := hfew.2.2.1 t (List.mem_of_getElem? ht)
      rw [gn_some ht]
      refine WP.ckI t1 (WP.letO (WP.letO ?_))
      cases hf : (lookM m t.c).isSome
      · refine WP.iteF ?_
        rw [gn_some hs]
        by_cases hc : s.c = t.c
        · rw [show (s.c != t.c) = false by simpa using hc]
          unfold g_law42_PrizesConserve_j13
          refine WP.iteF ?_
          rw [gn_some hs]
          refine WP.ck (by simp only [maxLen]; omega) ?_
          have hio : o.length ≤ all := by rw [io, ia]; exact (setL_facts _).2.2.1
          refine WP.loop (fun v => v.2.1 ≤ t.l.length ∧ v.1 = (((ts.take i).flatMap fun t => t.l.map clubOf) ++ (t.l.take v.2.1).map clubOf).length ∧ v.2.2 = setL (((ts.take i).flatMap fun t => t.l.map clubOf) ++ (t.l.take v.2.1).map clubOf)) (fun v => t.l.length - v.2.1) ?_ ⟨by simp, by simpa using ia, by simpa using io⟩
          rintro ⟨all2, k, o2⟩ ⟨hk, ja, jo⟩
          dsimp only at hk ja jo ⊢
          have hall : all2 = all + k := by rw [ja, List.length_append, ← ia, List.length_map, List.length_take]; omega
          simp only [g_law42_PrizesConserve_l14]
          refine WP.iteD (fun hlt2 => ?_) (fun hlt2 => ?_)
          · obtain ⟨p, hp⟩ : ∃ p, t.l[k]? = some p := ⟨_, List.getElem?_eq_getElem (by omega)⟩
            rw [gn_some hp]
            have hpi := t2 p (List.mem_of_getElem? hp)
            have hol : o2.length ≤ all2 := by rw [jo, ja]; exact (setL_facts _).2.2.1
            refine WP.ckI hpi ?_
            refine WP.ck (by simp only [maxLen]; omega) ?_
            (repeat' (first | with_reducible (first | refine WP.iteT ?_ | refine WP.iteF ?_ | refine WP.iteNb ?_ | refine WP.iteD (fun _ => ?_) (fun _ => ?_) | refine WP.iteE (fun _ => ?_) (fun _ => ?_) | refine WP.iteN (fun _ => ?_) (fun _ => ?_) | refine WP.iteB (fun _ => ?_) (fun _ => ?_)) | (with_reducible refine WP.ckI ?_ ?_; · omega) | (with_reducible refine WP.gn ?_ (fun _ _ => ?_); · omega) | (with_reducible refine WP.gt ?_ (fun _ _ => ?_); · omega) | with_reducible (first | refine WP.up ?_ | refine WP.letO ?_ | refine WP.ret ?_)))
            refine ⟨⟨by dsimp only; omega, ?_, ?_⟩, by dsimp only; omega⟩
            · dsimp only
              rw [take_snoc hp, List.map_append, ← List.append_assoc, List.length_append, ← ja]; rfl
            · dsimp only
              rw [take_snoc hp, List.map_append, ← List.append_assoc, jo]
              exact (setL_snoc _ _).symm
          · rw [List.take_of_length_le (show t.l.length ≤ k by omega)] at ja jo
            refine WP.up ?_
            unfold g_law42_PrizesConserve_j12
            have e : (ts.take (i + 1)).flatMap (fun t => t.l.map clubOf) = ((ts.take i).flatMap fun t => t.l.map clubOf) ++ t.l.map clubOf := by
              rw [take_snoc ht, List.flatMap_append]; simp
            have hpl := putM_len m t.c s
            (repeat' (first | with_reducible (first | refine WP.iteT ?_ | refine WP.iteF ?_ | refine WP.iteNb ?_ | refine WP.iteD (fun _ => ?_) (fun _ => ?_) | refine WP.iteE (fun _ => ?_) (fun _ => ?_) | refine WP.iteN (fun _ => ?_) (fun _ => ?_) | refine WP.iteB (fun _ => ?_) (fun _ => ?_)) | (with_reducible refine WP.ckI ?_ ?_; · omega) | (with_reducible refine WP.gn ?_ (fun _ _ => ?_); · omega) | (with_reducible refine WP.gt ?_ (fun _ _ => ?_); · omega) | with_reducible (first | refine WP.up ?_ | refine WP.letO ?_ | refine WP.ret ?_)))
            refine ⟨⟨by dsimp only; omega, by dsimp only; rw [e]; exact ja, by dsimp only; rw [e]; exact jo, by dsimp only; omega, ?_, ?_, fun n x hx => ?_, fun n hx => ?_, by dsimp only; omega⟩, by dsimp only; omega⟩
            · dsimp only
              rw [take_snoc ht, List.map_append, List.nodup_append]
              refine ⟨in_, by simp, fun a ha b hb e => ?_⟩
              simp only [List.map_cons, List.map_nil, List.mem_singleton] at hb
              subst e hb
              exact ik2 _ hf ha
            · dsimp only
              rw [take_snoc ht, take_snoc hs, List.map_append, List.map_append, ie]
              simp [hc]
            · dsimp only at hx
              rw [lookM_put] at hx
              split at hx
              · rename_i h9
                cases hx
                exact ⟨List.mem_of_getElem? hs, by rw [hc]; exact h9⟩
              · exact ik n x hx
            · dsimp only at hx ⊢
              rw [lookM_put] at hx
              split at hx
              · cases hx
              · rename_i h9
                rw [take_snoc ht, List.map_append, List.mem_append]
                rintro (h8 | h8)
                · exact ik2 n hx h8
                · simp only [List.map_cons, List.map_nil, List.mem_singleton] at h8
                  exact h9 h8.symm
        · rw [show (s.c != t.c) = true by simpa using hc]
          unfold g_law42_PrizesConserve_j13
          exact WP.iteT (WP.up (WP.ret rfl))
      · refine WP.iteT ?_
        unfold g_law42_PrizesConserve_j13
        exact WP.iteT (WP.up (WP.ret rfl))
    · rw [List.take_of_length_le (by omega)] at ia io in_ ie
      rw [List.take_of_length_le (by omega)] at ie
      refine WP.up ?_
      rw [ia, io]
      exact cons_j2 hfew in_ ie ik (fun t ht => (hT t ht).2) hS
  · rw [show ((((ts.length : Nat) : Int) != ((ss.length : Nat) : Int))) = true by simp; omega]
    exact j1t
end Go.Proofs.Ytoiiblkncbnlaaa
