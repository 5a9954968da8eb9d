/-
  Texts that belong together, one behind the other; what each of them proves, and under which conditions, its own heading says.
-/
import Derived.Test.YtoiiblkncbnlaaaGreatRows
import Derived.Test.YtoiiblkncbnlaaaGreatVd
/-
  Go functions as partial functions, printed by auto.py: what each returns when its partial function has a value. Conditions: those of each theorem.
-/
namespace Go.Proofs.YtoiiblkncbnlaaaGreat
open Go.DL
set_option maxRecDepth 100000
set_option maxHeartbeats 4000000
set_option linter.unusedVariables false
set_option linter.unusedSimpArgs false
theorem g_ref42_Same_ret {a_1 : List Pay} {b_2 : List Pay} {r : Bool} (h : g_ref42_Same a_1 b_2 = some r) : Ret Tryz.prog 16 [(.sl 2 (a_1.map encPay)), (.sl 2 (b_2.map encPay))] (B (r)) := by
  refine Ret.of_T Tryz.func16 (by kernel_rfl) rfl ?_
  refine T_turn [] [0, 1] [] (mk 26 [(0, (dt (.sl 2 (a_1.map encPay)))), (1, (dt (.sl 2 (b_2.map encPay))))] []) (by kernel_rfl) ?_
  refine T_reg [] [0, 1] [] (mk 26 [(0, (dt (.sl 2 (a_1.map encPay)))), (1, (dt (.sl 2 (b_2.map encPay))))] []) _ (by kernel_rfl) (z2 zt) ?_
  refine T_seq ?_
  refine T_reg [zn, (zd (I ((a_1.length : Nat) : Int))), zn, (zd (I ((b_2.length : Nat) : Int)))] [0, 1, 10] [] (mk 26 [(0, (dt (.sl 2 (a_1.map encPay)))), (1, (dt (.sl 2 (b_2.map encPay)))), (10, (db (((a_1.length : Nat) : Int) != ((b_2.length : Nat) : Int))))] []) _ (by kernel_rfl) (z3 (zc (len_s encPay a_1) (z3 (zc (len_s encPay b_2) (z2 zt))))) ?_
  refine T_cond (((a_1.length : Nat) : Int) != ((b_2.length : Nat) : Int)) (by kernel_rfl) (fun b3 => ?_) (fun b3 => ?_)
  replace h := ite_t b3 h
  refine T_reg [] [4] [] (mk 26 [(4, (db false))] []) _ (by kernel_rfl) (z2 zt) ?_
  refine T_ret ?_
  obtain rfl := some_inv h
  exact ret_here [(db false)] (by kernel_rfl) (.inl rfl)
  replace h := ite_f b3 h
  refine T_skip ?_
  refine T_seqJ (α := Unit) (fun (_ : Unit) => (mk 26 [] [])) (fun (_ : Unit) => g_ref42_Same_j1 = some r) (fun v h => ?_) ?_
  refine T_reg [] [4] [] (mk 26 [(4, (db true))] []) _ (by kernel_rfl) (z2 zt) ?_
  refine T_ret ?_
  obtain rfl := some_inv h
  exact ret_here [(db true)] (by kernel_rfl) (.inl rfl)
  refine T_reg [] [0, 1, 5] [] (mk 26 [(0, (dt (.sl 2 (a_1.map encPay)))), (1, (dt (.sl 2 (b_2.map encPay)))), (5, (di 0))] []) _ (by kernel_rfl) (z2 zt) ?_
  refine T_block ?_
  refine T_arr [] [0, 1, 5] [] [] _ (by kernel_rfl) (T_loopO (σ := Nat) (fun (i_4 : Nat) => (mk 26 [(0, (dt (.sl 2 (a_1.map encPay)))), (1, (dt (.sl 2 (b_2.map encPay)))), (5, (di ((i_4 : Nat) : Int)))] [])) (g_ref42_Same_l2 a_1 b_2) 0 h (fun i_4 y1 hy1 h => ?_))
  refine T_seq ?_
  refine T_reg [zn, zn, (zd (I ((a_1.length : Nat) : Int)))] [0, 1, 5, 14] [] (mk 26 [(0, (dt (.sl 2 (a_1.map encPay)))), (1, (dt (.sl 2 (b_2.map encPay)))), (5, (di ((i_4 : Nat) : Int))), (14, (db (decide (((i_4 : Nat) : Int) < ((a_1.length : Nat) : Int)))))] []) _ (by kernel_rfl) (z5 (zc (len_s encPay a_1) (z2 zt))) ?_
  refine T_cond (decide (((i_4 : Nat) : Int) < ((a_1.length : Nat) : Int))) (by kernel_rfl) (fun b6 => ?_) (fun b6 => ?_)
  replace h := ite_t b6 h
  refine T_skip ?_
  refine T_seq ?_
  refine T_block ?_
  obtain ⟨x_7, e8, e9, e10, h⟩ := gn_inv encPay h
  obtain ⟨x_11, e12, e13, e14, h⟩ := gn_inv encPay h
  refine T_regD 9 (hl 7 [(2, (zd (encPay x_7))), (6, (zd (encPay x_11)))]) [0, 1, 5, 25] [] (mk 26 [(0, (dt (.sl 2 (a_1.map encPay)))), (1, (dt (.sl 2 (b_2.map encPay)))), (5, (di ((i_4 : Nat) : Int))), (25, (db (!((x_7.c == x_11.c) && ((x_7.a == x_11.a) && true)))))] []) _ (by kernel_rfl) (by kernel_rfl) (by kernel_rfl) (zc (z5 (zc e8 (z7 (zc e12 (z4 zt))))) zt) ?_
  refine T_cond (!((x_7.c == x_11.c) && ((x_7.a == x_11.a) && true))) (by kernel_rfl) (fun b15 => ?_) (fun b15 => ?_)
  replace h := ite_t b15 h
  refine T_reg [] [4] [] (mk 26 [(4, (db false))] []) _ (by kernel_rfl) (z2 zt) ?_
  refine T_ret ?_
  replace h := up_inv h hy1
  obtain rfl := some_inv h
  exact ret_here [(db false)] (by kernel_rfl) (.inl rfl)
  replace h := ite_f b15 h
  refine T_skip ?_
  obtain ⟨c16, h⟩ := ckI_inv h
  exact T_regJ [zn, (zd (I ((i_4 + 1 : Nat) : Int)))] [] [0, 1, 5] [] [] _ _ (by kernel_rfl) (z3 (zc c16 (z2 zt))) (fun s hs => Exists.intro (i_4 + 1) (And.intro h hs))
  replace h := ite_f b6 h
  refine T_exit ?_
  replace h := up_inv h hy1
  exact Exists.intro () (And.intro h (arr [] [] [] [] (by kernel_rfl)))

theorem g_ref42_SameInts_ret {a_1 : List Int} {b_2 : List Int} {r : Bool} (h : g_ref42_SameInts a_1 b_2 = some r) : Ret Tryz.prog 19 [(.sl 1 (a_1.map elI)), (.sl 1 (b_2.map elI))] (B (r)) := by
  refine Ret.of_T Tryz.func19 (by kernel_rfl) rfl ?_
  refine T_turn [] [0, 1] [] (mk 26 [(0, (dt (.sl 1 (a_1.map elI)))), (1, (dt (.sl 1 (b_2.map elI))))] []) (by kernel_rfl) ?_
  refine T_reg [] [0, 1] [] (mk 26 [(0, (dt (.sl 1 (a_1.map elI)))), (1, (dt (.sl 1 (b_2.map elI))))] []) _ (by kernel_rfl) (z2 zt) ?_
  refine T_seq ?_
  refine T_reg [zn, (zd (I ((a_1.length : Nat) : Int))), zn, (zd (I ((b_2.length : Nat) : Int)))] [0, 1, 10] [] (mk 26 [(0, (dt (.sl 1 (a_1.map elI)))), (1, (dt (.sl 1 (b_2.map elI)))), (10, (db (((a_1.length : Nat) : Int) != ((b_2.length : Nat) : Int))))] []) _ (by kernel_rfl) (z3 (zc (len_s elI a_1) (z3 (zc (len_s elI b_2) (z2 zt))))) ?_
  refine T_cond (((a_1.length : Nat) : Int) != ((b_2.length : Nat) : Int)) (by kernel_rfl) (fun b3 => ?_) (fun b3 => ?_)
  replace h := ite_t b3 h
  refine T_reg [] [4] [] (mk 26 [(4, (db false))] []) _ (by kernel_rfl) (z2 zt) ?_
  refine T_ret ?_
  obtain rfl := some_inv h
  exact ret_here [(db false)] (by kernel_rfl) (.inl rfl)
  replace h := ite_f b3 h
  refine T_skip ?_
  refine T_seqJ (α := Unit) (fun (_ : Unit) => (mk 26 [] [])) (fun (_ : Unit) => g_ref42_SameInts_j1 = some r) (fun v h => ?_) ?_
  refine T_reg [] [4] [] (mk 26 [(4, (db true))] []) _ (by kernel_rfl) (z2 zt) ?_
  refine T_ret ?_
  obtain rfl := some_inv h
  exact ret_here [(db true)] (by kernel_rfl) (.inl rfl)
  refine T_reg [] [0, 1, 5] [] (mk 26 [(0, (dt (.sl 1 (a_1.map elI)))), (1, (dt (.sl 1 (b_2.map elI)))), (5, (di 0))] []) _ (by kernel_rfl) (z2 zt) ?_
  refine T_block ?_
  refine T_arr [] [0, 1, 5] [] [] _ (by kernel_rfl) (T_loopO (σ := Nat) (fun (i_4 : Nat) => (mk 26 [(0, (dt (.sl 1 (a_1.map elI)))), (1, (dt (.sl 1 (b_2.map elI)))), (5, (di ((i_4 : Nat) : Int)))] [])) (g_ref42_SameInts_l2 a_1 b_2) 0 h (fun i_4 y1 hy1 h => ?_))
  refine T_seq ?_
  refine T_reg [zn, zn, (zd (I ((a_1.length : Nat) : Int)))] [0, 1, 5, 14] [] (mk 26 [(0, (dt (.sl 1 (a_1.map elI)))), (1, (dt (.sl 1 (b_2.map elI)))), (5, (di ((i_4 : Nat) : Int))), (14, (db (decide (((i_4 : Nat) : Int) < ((a_1.length : Nat) : Int)))))] []) _ (by kernel_rfl) (z5 (zc (len_s elI a_1) (z2 zt))) ?_
  refine T_cond (decide (((i_4 : Nat) : Int) < ((a_1.length : Nat) : Int))) (by kernel_rfl) (fun b6 => ?_) (fun b6 => ?_)
  replace h := ite_t b6 h
  refine T_skip ?_
  refine T_seq ?_
  refine T_block ?_
  obtain ⟨x_7, e8, e9, e10, h⟩ := gn_inv elI h
  obtain ⟨x_11, e12, e13, e14, h⟩ := gn_inv elI h
  refine T_regD 9 (hl 7 [(2, (zd (I x_7))), (6, (zd (I x_11)))]) [0, 1, 5, 25] [] (mk 26 [(0, (dt (.sl 1 (a_1.map elI)))), (1, (dt (.sl 1 (b_2.map elI)))), (5, (di ((i_4 : Nat) : Int))), (25, (db (x_7 != x_11)))] []) _ (by kernel_rfl) (by kernel_rfl) (by kernel_rfl) (zc (z5 (zc e8 (z7 (zc e12 (z4 zt))))) zt) ?_
  refine T_cond (x_7 != x_11) (by kernel_rfl) (fun b15 => ?_) (fun b15 => ?_)
  replace h := ite_t b15 h
  refine T_reg [] [4] [] (mk 26 [(4, (db false))] []) _ (by kernel_rfl) (z2 zt) ?_
  refine T_ret ?_
  replace h := up_inv h hy1
  obtain rfl := some_inv h
  exact ret_here [(db false)] (by kernel_rfl) (.inl rfl)
  replace h := ite_f b15 h
  refine T_skip ?_
  obtain ⟨c16, h⟩ := ckI_inv h
  exact T_regJ [zn, (zd (I ((i_4 + 1 : Nat) : Int)))] [] [0, 1, 5] [] [] _ _ (by kernel_rfl) (z3 (zc c16 (z2 zt))) (fun s hs => Exists.intro (i_4 + 1) (And.intro h hs))
  replace h := ite_f b6 h
  refine T_exit ?_
  replace h := up_inv h hy1
  exact Exists.intro () (And.intro h (arr [] [] [] [] (by kernel_rfl)))

theorem g_law42_sane_ret {r : Bool} (h : g_law42_sane = some r) : Ret Tryz.prog 9 [] (B (r)) := by
  refine Ret.of_T Tryz.func9 (by kernel_rfl) rfl ?_
  refine T_turn [] [] [] (mk 109 [] []) (by kernel_rfl) ?_
  refine T_reg [] [] [] (mk 109 [] []) _ (by kernel_rfl) (z2 zt) ?_
  refine T_reg [] [1] [] (mk 109 [(1, (rf 1 0))] [(1, (.var [(.dat (I 2)), (.own 16), (.dat (I 0)), (.dat (I 0)), (.dat (I (-1))), (.dat (I (-1)))])), (16, (.row 58 3 ([(⟨1, 2, 101⟩ : Prize)].map encPrize)))]) _ (by kernel_rfl) (z3 (zc (show dfill (fun i => some (i * 3, 3)) (List.replicate (1 * 3) .junk) [(0, [(.dat (I 1)), (.dat (I 2)), (.dat (I 101))])] = some ((flat ([(⟨1, 2, 101⟩ : Prize)].map encPrize)).map .dat) from rfl) (z6 zt))) ?_
  refine T_reg [] [1, 2] [] (mk 109 [(1, (rf 1 0)), (2, (rf 2 0))] [(2, (.var [(.dat (I 2)), (.own 16), (.dat (I 0)), (.dat (I 0)), (.dat (I (-1))), (.dat (I (-1)))])), (1, (.var [(.dat (I 2)), (.own 16), (.dat (I 0)), (.dat (I 0)), (.dat (I (-1))), (.dat (I (-1)))])), (16, (.row 58 3 ([(⟨1, 2, 101⟩ : Prize)].map encPrize)))]) _ (by kernel_rfl) (z6 zt) ?_
  refine T_reg [] [1, 2] [] (mk 109 [(1, (rf 1 0)), (2, (rf 2 0))] [(21, (.row 58 3 ([(⟨1, 2, 101⟩ : Prize), (⟨2, 2, 1⟩ : Prize)].map encPrize))), (2, (.var [(.dat (I 2)), (.own 21), (.dat (I 0)), (.dat (I 0)), (.dat (I (-1))), (.dat (I (-1)))])), (1, (.var [(.dat (I 2)), (.own 16), (.dat (I 0)), (.dat (I 0)), (.dat (I (-1))), (.dat (I (-1)))])), (16, (.row 58 3 ([(⟨1, 2, 101⟩ : Prize)].map encPrize)))]) _ (by kernel_rfl) (z5 (zc (show dfill (fun i => some (i * 3, 3)) (List.replicate (2 * 3) .junk) [(0, [(.dat (I 1)), (.dat (I 2)), (.dat (I 101))]), (1, [(.dat (I 2)), (.dat (I 2)), (.dat (I 1))])] = some ((flat ([(⟨1, 2, 101⟩ : Prize), (⟨2, 2, 1⟩ : Prize)].map encPrize)).map .dat) from rfl) (z4 zt))) ?_
  obtain ⟨r_1, e2, h⟩ := bd_inv h
  obtain ⟨r_3, e4, h⟩ := bd_inv h
  refine T_arr [] [1, 2] [] [1, 2, 16, 21] (mk 109 [(1, (rf 1 0)), (2, (rf 2 0))] [(1, (.var [(.dat (I 2)), (.own 16), (.dat (I 0)), (.dat (I 0)), (.dat (I (-1))), (.dat (I (-1)))])), (2, (.var [(.dat (I 2)), (.own 21), (.dat (I 0)), (.dat (I 0)), (.dat (I (-1))), (.dat (I (-1)))])), (16, (.row 58 3 ([(⟨1, 2, 101⟩ : Prize)].map encPrize))), (21, (.row 58 3 ([(⟨1, 2, 101⟩ : Prize), (⟨2, 2, 1⟩ : Prize)].map encPrize)))]) (by kernel_rfl) ?_
  refine T_anyUS [{}, { h := zd (encTab r_1), co := [.ice 24] }, {}, { h := zd (.tup [(.sl 2 (r_3.1.map encPay)), (I r_3.2)]), co := [.ice 16] }, {}, {}, {}, {}, {}] _ (mk 109 [(1, (rf 1 0)), (2, (rf 2 0))] [(1, (.var [(.dat (I 2)), (.own 16), (.dat (I 0)), (.dat (I 0)), (.dat (I (-1))), (.dat (I (-1)))])), (2, (.var [(.dat (I 2)), (.own 21), (.dat (I 0)), (.dat (I 0)), (.dat (I (-1))), (.dat (I (-1)))])), (16, (.row 58 3 ([(⟨1, 2, 101⟩ : Prize)].map encPrize))), (21, (.row 58 3 ([(⟨1, 2, 101⟩ : Prize), (⟨2, 2, 1⟩ : Prize)].map encPrize)))]) [(0, 24, (ow 24)), (1, 24, (dt (.sl 1 ([(4 : Int), (9 : Int)].map elI)))), (1, 25, (.agg (qTab r_1))), (2, 26, (.agg [(.dat (I 2)), (.own 16), (.dat (I 0)), (.dat (I 0)), (.dat (I (-1))), (.dat (I (-1)))])), (3, 26, (.agg [(.dat (I 2)), (.dat (.sl 3 ([(⟨1, 2, 101⟩ : Prize)].map encPrize))), (.dat (I 0)), (.dat (I 0)), (.dat (I (-1))), (.dat (I (-1)))])), (3, 27, (.tup [(false, [(.dat (.sl 2 (r_3.1.map encPay)))]), (false, [(.dat (I r_3.2))])])), (4, 23, (.tup [(false, [(.dat (.sl 2 (r_3.1.map encPay)))]), (false, [(.dat (I r_3.2))])])), (5, 28, (dt (.sl 2 (r_3.1.map encPay)))), (6, 29, (di r_3.2)), (7, 3, (dt (.sl 2 (r_3.1.map encPay)))), (8, 4, (di r_3.2))] [(0, 24, some (.row 3 1 ([(4 : Int), (9 : Int)].map elI))), (1, 24, none), (3, 1, some (.var [(.dat (I 2)), (.dat (.sl 3 ([(⟨1, 2, 101⟩ : Prize)].map encPrize))), (.dat (I 0)), (.dat (I 0)), (.dat (I (-1))), (.dat (I (-1)))])), (3, 16, none)] [1, 2, 16, 21, 24] [0, 1, 3, 4, 5, 7, 15, 31, 63, 95, 127, 191, 255, 511] (by kernel_rfl) (by decide) (by kernel_rfl) (by kernel_rfl) (by kernel_rfl) (zs (zc zt (show dfill (fun i => some (i * 1, 1)) (List.replicate (2 * 1) .junk) [(0, [(.dat (I 4))]), (1, [(.dat (I 9))])] = some ((flat ([(4 : Int), (9 : Int)].map elI)).map .dat) from rfl)) (zs (zc zt (g_law42_level_ret e2)) (zs (zc zt zt) (zs (zc zt (g_prizes_Prizes_ret e4)) (zs (zc zt zt) (zs (zc zt zt) (zs (zc zt zt) (zs (zc zt zt) (zs (zc zt zt) zS))))))))) ?_
  refine T_turn [] [1, 2, 3, 4] [] (mk 109 [(1, (rf 1 0)), (2, (rf 2 0)), (3, (dt (.sl 2 (r_3.1.map encPay)))), (4, (di r_3.2))] [(1, (.var [(.dat (I 2)), (.dat (.sl 3 ([(⟨1, 2, 101⟩ : Prize)].map encPrize))), (.dat (I 0)), (.dat (I 0)), (.dat (I (-1))), (.dat (I (-1)))])), (2, (.var [(.dat (I 2)), (.own 21), (.dat (I 0)), (.dat (I 0)), (.dat (I (-1))), (.dat (I (-1)))])), (21, (.row 58 3 ([(⟨1, 2, 101⟩ : Prize), (⟨2, 2, 1⟩ : Prize)].map encPrize)))]) (by kernel_rfl) ?_
  obtain ⟨r_5, e6, h⟩ := bd_inv h
  refine T_regD 11 [zn, (zd (encTab r_1)), zn, zn, zn, (zd (.tup [(.sl 1 (r_5.1.map elI)), (I r_5.2)]))] [1, 2, 3, 4, 5, 6] [] (mk 109 [(1, (rf 1 0)), (2, (rf 2 0)), (3, (dt (.sl 2 (r_3.1.map encPay)))), (4, (di r_3.2)), (5, (dt (.sl 1 (r_5.1.map elI)))), (6, (di r_5.2))] [(1, (.var [(.dat (I 2)), (.dat (.sl 3 ([(⟨1, 2, 101⟩ : Prize)].map encPrize))), (.dat (I 0)), (.dat (I 0)), (.dat (I (-1))), (.dat (I (-1)))])), (2, (.var [(.dat (I 2)), (.own 21), (.dat (I 0)), (.dat (I 0)), (.dat (I (-1))), (.dat (I (-1)))])), (21, (.row 58 3 ([(⟨1, 2, 101⟩ : Prize), (⟨2, 2, 1⟩ : Prize)].map encPrize)))]) _ (by kernel_rfl) (by kernel_rfl) (by kernel_rfl) (zc (z1 (zc (show dfill (fun i => some (i * 1, 1)) (List.replicate (2 * 1) .junk) [(0, [(.dat (I 4))]), (1, [(.dat (I 9))])] = some ((flat ([(4 : Int), (9 : Int)].map elI)).map .dat) from rfl) (z1 (zc (g_law42_level_ret e2) (z1 (zc (show dfill (fun i => some (i * 3, 3)) (List.replicate (1 * 3) .junk) [(0, [(.dat (I r_1.s)), (.dat (I r_1.c)), (.dat (.sl 14 (r_1.l.map encPlace)))])] = some ((flat ([r_1].map encTab)).map .dat) from rfl) (z3 (zc (show dfill (fun i => some (i * 6, 6)) (List.replicate (1 * 6) .junk) [(0, [(.dat (I 2)), (.dat (.sl 3 ([(⟨1, 2, 101⟩ : Prize)].map encPrize))), (.dat (I 0)), (.dat (I 0)), (.dat (I (-1))), (.dat (I (-1)))])] = some ((flat ([(⟨2, [(⟨1, 2, 101⟩ : Prize)], 0, 0, (-1), (-1)⟩ : Sch)].map encSch)).map .dat) from rfl) (z1 (zc (g_prizes_Next_ret e6) (z8 (z2 zt)))))))))))) zt) ?_
  obtain ⟨r_7, e8, h⟩ := bd_inv h
  refine T_reg [(zd (.tup [(.sl 1 (r_7.1.map elI)), (I r_7.2)]))] [1, 2, 3, 4, 5, 6, 8] [] (mk 109 [(1, (rf 1 0)), (2, (rf 2 0)), (3, (dt (.sl 2 (r_3.1.map encPay)))), (4, (di r_3.2)), (5, (dt (.sl 1 (r_5.1.map elI)))), (6, (di r_5.2)), (8, (di r_7.2))] [(1, (.var [(.dat (I 2)), (.dat (.sl 3 ([(⟨1, 2, 101⟩ : Prize)].map encPrize))), (.dat (I 0)), (.dat (I 0)), (.dat (I (-1))), (.dat (I (-1)))])), (2, (.var [(.dat (I 2)), (.own 21), (.dat (I 0)), (.dat (I 0)), (.dat (I (-1))), (.dat (I (-1)))])), (21, (.row 58 3 ([(⟨1, 2, 101⟩ : Prize), (⟨2, 2, 1⟩ : Prize)].map encPrize)))]) _ (by kernel_rfl) (z1 (zc (show Ret Tryz.prog 20 [nilS, nilS, (I 0)] (.tup [(.sl 1 (r_7.1.map elI)), (I r_7.2)]) from (Ret.weak (g_prizes_Next_ret e8) ⟨Weak.nil 3, Weak.nil 6, Weak.refl _, trivial⟩)) (z8 (z2 zt)))) ?_
  obtain ⟨r_9, e10, h⟩ := bd_inv h
  refine T_reg [zn, zn, (zd (.tup [(.sl 2 (r_9.1.map encPay)), (I r_9.2)]))] [1, 2, 3, 4, 5, 6, 8, 10] [] (mk 109 [(1, (rf 1 0)), (2, (rf 2 0)), (3, (dt (.sl 2 (r_3.1.map encPay)))), (4, (di r_3.2)), (5, (dt (.sl 1 (r_5.1.map elI)))), (6, (di r_5.2)), (8, (di r_7.2)), (10, (di r_9.2))] [(1, (.var [(.dat (I 2)), (.dat (.sl 3 ([(⟨1, 2, 101⟩ : Prize)].map encPrize))), (.dat (I 0)), (.dat (I 0)), (.dat (I (-1))), (.dat (I (-1)))])), (2, (.var [(.dat (I 2)), (.own 21), (.dat (I 0)), (.dat (I 0)), (.dat (I (-1))), (.dat (I (-1)))])), (21, (.row 58 3 ([(⟨1, 2, 101⟩ : Prize), (⟨2, 2, 1⟩ : Prize)].map encPrize)))]) _ (by kernel_rfl) (z5 (zc (show Ret Tryz.prog 12 [(.agg [(I 0), (I 0), nilS]), (.agg [(I 2), (.sl 3 ([(⟨1, 2, 101⟩ : Prize)].map encPrize)), (I 0), (I 0), (I (-1)), (I (-1))])] (.tup [(.sl 2 (r_9.1.map encPay)), (I r_9.2)]) from (Ret.weak (g_prizes_Prizes_ret e10) ⟨(Weak.agg ⟨Weak.refl _, Weak.refl _, Weak.nil 14, trivial⟩), Weak.refl _, trivial⟩)) (z8 (z2 zt)))) ?_
  refine T_reg [] [1, 2, 3, 4, 5, 6, 8, 10, 11] [] (mk 109 [(1, (rf 1 0)), (2, (rf 2 0)), (3, (dt (.sl 2 (r_3.1.map encPay)))), (4, (di r_3.2)), (5, (dt (.sl 1 (r_5.1.map elI)))), (6, (di r_5.2)), (8, (di r_7.2)), (10, (di r_9.2)), (11, (rf 11 0))] [(11, (.var [(.dat (I 2)), (.dat (.sl 3 ([(⟨1, 2, 101⟩ : Prize)].map encPrize))), (.dat (I 0)), (.dat (I 0)), (.dat (I (-1))), (.dat (I (-1)))])), (1, (.var [(.dat (I 2)), (.dat (.sl 3 ([(⟨1, 2, 101⟩ : Prize)].map encPrize))), (.dat (I 0)), (.dat (I 0)), (.dat (I (-1))), (.dat (I (-1)))])), (2, (.var [(.dat (I 2)), (.own 21), (.dat (I 0)), (.dat (I 0)), (.dat (I (-1))), (.dat (I (-1)))])), (21, (.row 58 3 ([(⟨1, 2, 101⟩ : Prize), (⟨2, 2, 1⟩ : Prize)].map encPrize)))]) _ (by kernel_rfl) (z6 zt) ?_
  refine T_reg [] [1, 2, 3, 4, 5, 6, 8, 10, 11] [] (mk 109 [(1, (rf 1 0)), (2, (rf 2 0)), (3, (dt (.sl 2 (r_3.1.map encPay)))), (4, (di r_3.2)), (5, (dt (.sl 1 (r_5.1.map elI)))), (6, (di r_5.2)), (8, (di r_7.2)), (10, (di r_9.2)), (11, (rf 11 0))] [(11, (.var [(.dat (I 2)), (.dat (.sl 3 ([(⟨1, 2, 101⟩ : Prize)].map encPrize))), (.dat (I 3)), (.dat (I 0)), (.dat (I 1)), (.dat (I (-1)))])), (1, (.var [(.dat (I 2)), (.dat (.sl 3 ([(⟨1, 2, 101⟩ : Prize)].map encPrize))), (.dat (I 0)), (.dat (I 0)), (.dat (I (-1))), (.dat (I (-1)))])), (2, (.var [(.dat (I 2)), (.own 21), (.dat (I 0)), (.dat (I 0)), (.dat (I (-1))), (.dat (I (-1)))])), (21, (.row 58 3 ([(⟨1, 2, 101⟩ : Prize), (⟨2, 2, 1⟩ : Prize)].map encPrize)))]) _ (by kernel_rfl) (z8 zt) ?_
  obtain ⟨r_11, e12, h⟩ := bd_inv h
  refine T_regD 11 [zn, (zd (encTab r_1)), zn, (zd (.tup [(.sl 1 (r_11.1.map elI)), (.sl 1 (r_11.2.1.map elI)), (I r_11.2.2)]))] [1, 2, 3, 4, 5, 6, 8, 10, 14] [11] (mk 109 [(1, (rf 1 0)), (2, (rf 2 0)), (3, (dt (.sl 2 (r_3.1.map encPay)))), (4, (di r_3.2)), (5, (dt (.sl 1 (r_5.1.map elI)))), (6, (di r_5.2)), (8, (di r_7.2)), (10, (di r_9.2)), (14, (di r_11.2.2))] [(1, (.var [(.dat (I 2)), (.dat (.sl 3 ([(⟨1, 2, 101⟩ : Prize)].map encPrize))), (.dat (I 0)), (.dat (I 0)), (.dat (I (-1))), (.dat (I (-1)))])), (2, (.var [(.dat (I 2)), (.own 21), (.dat (I 0)), (.dat (I 0)), (.dat (I (-1))), (.dat (I (-1)))])), (21, (.row 58 3 ([(⟨1, 2, 101⟩ : Prize), (⟨2, 2, 1⟩ : Prize)].map encPrize)))]) _ (by kernel_rfl) (by kernel_rfl) (by kernel_rfl) (zc (z1 (zc (show dfill (fun i => some (i * 1, 1)) (List.replicate (2 * 1) .junk) [(0, [(.dat (I 4))]), (1, [(.dat (I 9))])] = some ((flat ([(4 : Int), (9 : Int)].map elI)).map .dat) from rfl) (z1 (zc (g_law42_level_ret e2) (z3 (zc (g_prizes_Moves_ret e12) (z8 (z6 zt)))))))) zt) ?_
  refine T_seq ?_
  refine T_seqJ (α := Bool) (fun (v_13 : Bool) => (mk 109 [(1, (rf 1 0)), (2, (rf 2 0)), (3, (dt (.sl 2 (r_3.1.map encPay)))), (5, (dt (.sl 1 (r_5.1.map elI)))), (83, (db (v_13)))] [(1, (.var [(.dat (I 2)), (.dat (.sl 3 ([(⟨1, 2, 101⟩ : Prize)].map encPrize))), (.dat (I 0)), (.dat (I 0)), (.dat (I (-1))), (.dat (I (-1)))])), (2, (.var [(.dat (I 2)), (.own 21), (.dat (I 0)), (.dat (I 0)), (.dat (I (-1))), (.dat (I (-1)))])), (21, (.row 58 3 ([(⟨1, 2, 101⟩ : Prize), (⟨2, 2, 1⟩ : Prize)].map encPrize)))])) (fun (v_13 : Bool) => g_law42_sane_j1 r_3 r_5 v_13 = some r) (fun v_13 h => ?_) ?_
  refine T_cond (v_13) (by kernel_rfl) (fun b14 => ?_) (fun b14 => ?_)
  replace h := ite_t b14 h
  refine T_reg [] [0] [1, 2, 21] (mk 109 [(0, (db false))] []) _ (by kernel_rfl) (z2 zt) ?_
  refine T_ret ?_
  obtain rfl := some_inv h
  exact ret_here [(db false)] (by kernel_rfl) (.inl rfl)
  replace h := ite_f b14 h
  refine T_skip ?_
  obtain ⟨r_15, e16, h⟩ := bd_inv h
  rcases Bool.eq_false_or_eq_true (r_15) with b17 | b17
  replace h := ite_t b17 h
  obtain ⟨r_18, e19, h⟩ := bd_inv h
  rcases Bool.eq_false_or_eq_true (r_18) with b20 | b20
  replace h := ite_t b20 h
  obtain ⟨r_21, e22, h⟩ := bd_inv h
  rcases Bool.eq_false_or_eq_true (r_21 == 0) with b23 | b23
  replace h := ite_t b23 h
  obtain ⟨r_24, e25, h⟩ := bd_inv h
  rcases Bool.eq_false_or_eq_true (r_24 == 420) with b26 | b26
  replace h := ite_t b26 h
  obtain ⟨r_27, e28, h⟩ := bd_inv h
  refine T_reg (hl 25 [(4, (zd (B (r_15)))), (8, (zd (B (r_18)))), (9, (zd (B true))), (12, (zd (I r_21))), (14, (zd (B true))), (17, (zd (I r_24))), (19, (zd (B true))), (22, (zd (I r_27))), (24, (zd (B true)))]) [0] [91, 87, 1, 2, 21] (mk 109 [(0, (db (r_27 == 420)))] []) _ (by kernel_rfl) (z7 (zc (show dfill (fun i => some (i * 2, 2)) (List.replicate (2 * 2) .junk) [(0, [(.dat (I 4)), (.dat (I 51))]), (1, [(.dat (I 9)), (.dat (I 50))])] = some ((flat ([(⟨4, 51⟩ : Pay), (⟨9, 50⟩ : Pay)].map encPay)).map .dat) from rfl) (z1 (zc (g_ref42_Same_ret e16) (z2 (zc (gd_tt b17) (z1 (zc (gd_tt b17) (zc (show dfill (fun i => some (i * 1, 1)) (List.replicate (2 * 1) .junk) [(0, [(.dat (I 4))]), (1, [(.dat (I 9))])] = some ((flat ([(4 : Int), (9 : Int)].map elI)).map .dat) from rfl) (zc (gd_tt b17) (zc (g_ref42_SameInts_ret e19) (z1 (zc b17 (z2 (zc (gd_tt b20) (z1 (zc (gd_tt b20) (zc (g_prizes_Check_ret e22) (zc (gd_tt b20) (z2 (zc b20 (z2 (zc (gd_tt b23) (z1 (zc (gd_tt b23) (zc (g_prizes_Check_ret e25) (zc (gd_tt b23) (z2 (zc b23 (z2 (zc (gd_tt b26) (z1 (zc (gd_tt b26) (zc (show Ret Tryz.prog 14 [(.agg [(I 0), nilS, (I 0), (I 0), (I 0), (I 0)])] (I r_27) from (Ret.weak (g_prizes_Check_ret e28) ⟨(Weak.agg ⟨Weak.refl _, Weak.nil 3, Weak.refl _, Weak.refl _, Weak.refl _, Weak.refl _, trivial⟩), trivial⟩)) (zc (gd_tt b26) (z2 (zc b26 (z2 zt)))))))))))))))))))))))))))))))))))))) ?_
  refine T_ret ?_
  obtain rfl := some_inv h
  exact ret_here [(db (r_27 == 420))] (by kernel_rfl) (.inl rfl)
  replace h := ite_f b26 h
  refine T_reg [zn, zn, zn, zn, (zd (B (r_15))), zn, zn, zn, (zd (B (r_18))), (zd (B true)), zn, zn, (zd (I r_21)), zn, (zd (B true)), zn, zn, (zd (I r_24)), zn, (zd (B true)), zn, zg, zg, zg, (zd (B false))] [0] [91, 87, 1, 2, 21] (mk 109 [(0, (db false))] []) _ (by kernel_rfl) (z7 (zc (show dfill (fun i => some (i * 2, 2)) (List.replicate (2 * 2) .junk) [(0, [(.dat (I 4)), (.dat (I 51))]), (1, [(.dat (I 9)), (.dat (I 50))])] = some ((flat ([(⟨4, 51⟩ : Pay), (⟨9, 50⟩ : Pay)].map encPay)).map .dat) from rfl) (z1 (zc (g_ref42_Same_ret e16) (z2 (zc (gd_tt b17) (z1 (zc (gd_tt b17) (zc (show dfill (fun i => some (i * 1, 1)) (List.replicate (2 * 1) .junk) [(0, [(.dat (I 4))]), (1, [(.dat (I 9))])] = some ((flat ([(4 : Int), (9 : Int)].map elI)).map .dat) from rfl) (zc (gd_tt b17) (zc (g_ref42_SameInts_ret e19) (z1 (zc b17 (z2 (zc (gd_tt b20) (z1 (zc (gd_tt b20) (zc (g_prizes_Check_ret e22) (zc (gd_tt b20) (z2 (zc b20 (z2 (zc (gd_tt b23) (z1 (zc (gd_tt b23) (zc (g_prizes_Check_ret e25) (zc (gd_tt b23) (z2 (zc b23 (z2 (zc (gd_ft b26) (zc (gd_ft b26) (zc (gd_ft b26) (z1 (zc b26 (z2 zt)))))))))))))))))))))))))))))))))))) ?_
  refine T_ret ?_
  obtain rfl := some_inv h
  exact ret_here [(db false)] (by kernel_rfl) (.inl rfl)
  replace h := ite_f b23 h
  refine T_reg [zn, zn, zn, zn, (zd (B (r_15))), zn, zn, zn, (zd (B (r_18))), (zd (B true)), zn, zn, (zd (I r_21)), zn, (zd (B true)), zn, zg, zg, zg, (zd (B false)), zn, zg, zg, zg, (zd (B false))] [0] [91, 87, 1, 2, 21] (mk 109 [(0, (db false))] []) _ (by kernel_rfl) (z7 (zc (show dfill (fun i => some (i * 2, 2)) (List.replicate (2 * 2) .junk) [(0, [(.dat (I 4)), (.dat (I 51))]), (1, [(.dat (I 9)), (.dat (I 50))])] = some ((flat ([(⟨4, 51⟩ : Pay), (⟨9, 50⟩ : Pay)].map encPay)).map .dat) from rfl) (z1 (zc (g_ref42_Same_ret e16) (z2 (zc (gd_tt b17) (z1 (zc (gd_tt b17) (zc (show dfill (fun i => some (i * 1, 1)) (List.replicate (2 * 1) .junk) [(0, [(.dat (I 4))]), (1, [(.dat (I 9))])] = some ((flat ([(4 : Int), (9 : Int)].map elI)).map .dat) from rfl) (zc (gd_tt b17) (zc (g_ref42_SameInts_ret e19) (z1 (zc b17 (z2 (zc (gd_tt b20) (z1 (zc (gd_tt b20) (zc (g_prizes_Check_ret e22) (zc (gd_tt b20) (z2 (zc b20 (z2 (zc (gd_ft b23) (zc (gd_ft b23) (zc (gd_ft b23) (z1 (zc b23 (z2 (zc (gd_ft (rfl : false = false)) (zc (gd_ft (rfl : false = false)) (zc (gd_ft (rfl : false = false)) (z1 (zc (rfl : false = false) (z2 zt)))))))))))))))))))))))))))))))))) ?_
  refine T_ret ?_
  obtain rfl := some_inv h
  exact ret_here [(db false)] (by kernel_rfl) (.inl rfl)
  replace h := ite_f b20 h
  refine T_reg [zn, zn, zn, zn, (zd (B (r_15))), zn, zn, zn, (zd (B (r_18))), (zd (B true)), zn, zg, zg, zg, (zd (B false)), zn, zg, zg, zg, (zd (B false)), zn, zg, zg, zg, (zd (B false))] [0] [91, 87, 1, 2, 21] (mk 109 [(0, (db false))] []) _ (by kernel_rfl) (z7 (zc (show dfill (fun i => some (i * 2, 2)) (List.replicate (2 * 2) .junk) [(0, [(.dat (I 4)), (.dat (I 51))]), (1, [(.dat (I 9)), (.dat (I 50))])] = some ((flat ([(⟨4, 51⟩ : Pay), (⟨9, 50⟩ : Pay)].map encPay)).map .dat) from rfl) (z1 (zc (g_ref42_Same_ret e16) (z2 (zc (gd_tt b17) (z1 (zc (gd_tt b17) (zc (show dfill (fun i => some (i * 1, 1)) (List.replicate (2 * 1) .junk) [(0, [(.dat (I 4))]), (1, [(.dat (I 9))])] = some ((flat ([(4 : Int), (9 : Int)].map elI)).map .dat) from rfl) (zc (gd_tt b17) (zc (g_ref42_SameInts_ret e19) (z1 (zc b17 (z2 (zc (gd_ft b20) (zc (gd_ft b20) (zc (gd_ft b20) (z1 (zc b20 (z2 (zc (gd_ft (rfl : false = false)) (zc (gd_ft (rfl : false = false)) (zc (gd_ft (rfl : false = false)) (z1 (zc (rfl : false = false) (z2 (zc (gd_ft (rfl : false = false)) (zc (gd_ft (rfl : false = false)) (zc (gd_ft (rfl : false = false)) (z1 (zc (rfl : false = false) (z2 zt)))))))))))))))))))))))))))))))) ?_
  refine T_ret ?_
  obtain rfl := some_inv h
  exact ret_here [(db false)] (by kernel_rfl) (.inl rfl)
  replace h := ite_f b17 h
  refine T_reg [zn, zn, zn, zn, (zd (B (r_15))), zn, zg, zg, zg, (zd (B false)), zn, zg, zg, zg, (zd (B false)), zn, zg, zg, zg, (zd (B false)), zn, zg, zg, zg, (zd (B false))] [0] [87, 1, 2, 21] (mk 109 [(0, (db false))] []) _ (by kernel_rfl) (z7 (zc (show dfill (fun i => some (i * 2, 2)) (List.replicate (2 * 2) .junk) [(0, [(.dat (I 4)), (.dat (I 51))]), (1, [(.dat (I 9)), (.dat (I 50))])] = some ((flat ([(⟨4, 51⟩ : Pay), (⟨9, 50⟩ : Pay)].map encPay)).map .dat) from rfl) (z1 (zc (g_ref42_Same_ret e16) (z2 (zc (gd_ft b17) (zc (gd_ft b17) (zc (gd_ft b17) (z1 (zc b17 (z2 (zc (gd_ft (rfl : false = false)) (zc (gd_ft (rfl : false = false)) (zc (gd_ft (rfl : false = false)) (z1 (zc (rfl : false = false) (z2 (zc (gd_ft (rfl : false = false)) (zc (gd_ft (rfl : false = false)) (zc (gd_ft (rfl : false = false)) (z1 (zc (rfl : false = false) (z2 (zc (gd_ft (rfl : false = false)) (zc (gd_ft (rfl : false = false)) (zc (gd_ft (rfl : false = false)) (z1 (zc (rfl : false = false) (z2 zt))))))))))))))))))))))))))))) ?_
  refine T_ret ?_
  obtain rfl := some_inv h
  exact ret_here [(db false)] (by kernel_rfl) (.inl rfl)
  rcases Bool.eq_false_or_eq_true (r_3.2 != 0) with b29 | b29
  replace h := ite_t b29 h
  exact T_regJ [zn, zn, zn, zg, zg, (zd (B true)), zn, zg, zg, (zd (B true)), zn, zg, zg, zg, zg, (zd (B true)), zn, zg, zg, (zd (B true)), zn, zg, zg, (zd (B true))] [] [1, 2, 3, 5, 83] [] [1, 2, 21] _ _ (by kernel_rfl) (z6 (zc (gd_tf b29) (zc (gd_tf b29) (z1 (zc b29 (z2 (zc (gd_tf (rfl : true = true)) (zc (gd_tf (rfl : true = true)) (z1 (zc (rfl : true = true) (z2 (zc (gd_tf (rfl : true = true)) (zc (gd_tf (rfl : true = true)) (zc (gd_tf (rfl : true = true)) (zc (gd_tf (rfl : true = true)) (z1 (zc (rfl : true = true) (z2 (zc (gd_tf (rfl : true = true)) (zc (gd_tf (rfl : true = true)) (z1 (zc (rfl : true = true) (z2 (zc (gd_tf (rfl : true = true)) (zc (gd_tf (rfl : true = true)) (z1 (zc (rfl : true = true) zt))))))))))))))))))))))))))) (fun s hs => Exists.intro true (And.intro h hs))
  replace h := ite_f b29 h
  rcases Bool.eq_false_or_eq_true (r_5.2 != 0) with b30 | b30
  replace h := ite_t b30 h
  exact T_regJ [zn, zn, zn, zn, zn, (zd (B false)), zn, zg, zg, (zd (B true)), zn, zg, zg, zg, zg, (zd (B true)), zn, zg, zg, (zd (B true)), zn, zg, zg, (zd (B true))] [] [1, 2, 3, 5, 83] [] [1, 2, 21] _ _ (by kernel_rfl) (z6 (zc (gd_ff b29) (z1 (zc (gd_ff b29) (z2 (zc b29 (z2 (zc (gd_tf b30) (zc (gd_tf b30) (z1 (zc b30 (z2 (zc (gd_tf (rfl : true = true)) (zc (gd_tf (rfl : true = true)) (zc (gd_tf (rfl : true = true)) (zc (gd_tf (rfl : true = true)) (z1 (zc (rfl : true = true) (z2 (zc (gd_tf (rfl : true = true)) (zc (gd_tf (rfl : true = true)) (z1 (zc (rfl : true = true) (z2 (zc (gd_tf (rfl : true = true)) (zc (gd_tf (rfl : true = true)) (z1 (zc (rfl : true = true) zt)))))))))))))))))))))))))))) (fun s hs => Exists.intro true (And.intro h hs))
  replace h := ite_f b30 h
  rcases Bool.eq_false_or_eq_true (r_7.2 != 420) with b31 | b31
  replace h := ite_t b31 h
  exact T_regJ [zn, zn, zn, zn, zn, (zd (B false)), zn, zn, zn, (zd (B false)), zn, zg, zg, zg, zg, (zd (B true)), zn, zg, zg, (zd (B true)), zn, zg, zg, (zd (B true))] [] [1, 2, 3, 5, 83] [] [1, 2, 21] _ _ (by kernel_rfl) (z6 (zc (gd_ff b29) (z1 (zc (gd_ff b29) (z2 (zc b29 (z2 (zc (gd_ff b30) (z1 (zc (gd_ff b30) (z2 (zc b30 (z2 (zc (gd_tf b31) (zc (gd_tf b31) (zc (gd_tf b31) (zc (gd_tf b31) (z1 (zc b31 (z2 (zc (gd_tf (rfl : true = true)) (zc (gd_tf (rfl : true = true)) (z1 (zc (rfl : true = true) (z2 (zc (gd_tf (rfl : true = true)) (zc (gd_tf (rfl : true = true)) (z1 (zc (rfl : true = true) zt))))))))))))))))))))))))))))) (fun s hs => Exists.intro true (And.intro h hs))
  replace h := ite_f b31 h
  obtain ⟨r_32, e33, h⟩ := bd_inv h
  rcases Bool.eq_false_or_eq_true (r_9.2 != r_32) with b34 | b34
  replace h := ite_t b34 h
  exact T_regJ [zn, zn, zn, zn, zn, (zd (B false)), zn, zn, zn, (zd (B false)), zn, zn, zn, (zd (I r_32)), zn, (zd (B false)), zn, zg, zg, (zd (B true)), zn, zg, zg, (zd (B true))] [] [1, 2, 3, 5, 83] [] [1, 2, 21] _ _ (by kernel_rfl) (z6 (zc (gd_ff b29) (z1 (zc (gd_ff b29) (z2 (zc b29 (z2 (zc (gd_ff b30) (z1 (zc (gd_ff b30) (z2 (zc b30 (z2 (zc (gd_ff b31) (z1 (zc (gd_ff b31) (z1 (zc (gd_ff b31) (zc (show Ret Tryz.prog 27 [(.agg [(I 0), (I 0), nilS])] (I r_32) from (Ret.weak (g_table_Check_ret e33) ⟨(Weak.agg ⟨Weak.refl _, Weak.refl _, Weak.nil 14, trivial⟩), trivial⟩)) (zc (gd_ff b31) (z2 (zc b31 (z2 (zc (gd_tf b34) (zc (gd_tf b34) (z1 (zc b34 (z2 (zc (gd_tf (rfl : true = true)) (zc (gd_tf (rfl : true = true)) (z1 (zc (rfl : true = true) zt)))))))))))))))))))))))))))))))) (fun s hs => Exists.intro true (And.intro h hs))
  replace h := ite_f b34 h
  rcases Bool.eq_false_or_eq_true (r_9.2 == 0) with b35 | b35
  replace h := ite_t b35 h
  exact T_regJ (hl 24 [(5, (zd (B false))), (9, (zd (B false))), (13, (zd (I r_32))), (15, (zd (B false))), (19, (zd (B false))), (21, zg), (22, zg), (23, (zd (B true)))]) [] [1, 2, 3, 5, 83] [] [1, 2, 21] _ _ (by kernel_rfl) (z6 (zc (gd_ff b29) (z1 (zc (gd_ff b29) (z2 (zc b29 (z2 (zc (gd_ff b30) (z1 (zc (gd_ff b30) (z2 (zc b30 (z2 (zc (gd_ff b31) (z1 (zc (gd_ff b31) (z1 (zc (gd_ff b31) (zc (show Ret Tryz.prog 27 [(.agg [(I 0), (I 0), nilS])] (I r_32) from (Ret.weak (g_table_Check_ret e33) ⟨(Weak.agg ⟨Weak.refl _, Weak.refl _, Weak.nil 14, trivial⟩), trivial⟩)) (zc (gd_ff b31) (z2 (zc b31 (z2 (zc (gd_ff b34) (z1 (zc (gd_ff b34) (z2 (zc b34 (z2 (zc (gd_tf b35) (zc (gd_tf b35) (z1 (zc b35 zt))))))))))))))))))))))))))))))))) (fun s hs => Exists.intro true (And.intro h hs))
  replace h := ite_f b35 h
  exact T_regJ (hl 24 [(5, (zd (B false))), (9, (zd (B false))), (13, (zd (I r_32))), (15, (zd (B false))), (19, (zd (B false))), (23, (zd (B false)))]) [] [1, 2, 3, 5, 83] [] [1, 2, 21] _ _ (by kernel_rfl) (z6 (zc (gd_ff b29) (z1 (zc (gd_ff b29) (z2 (zc b29 (z2 (zc (gd_ff b30) (z1 (zc (gd_ff b30) (z2 (zc b30 (z2 (zc (gd_ff b31) (z1 (zc (gd_ff b31) (z1 (zc (gd_ff b31) (zc (show Ret Tryz.prog 27 [(.agg [(I 0), (I 0), nilS])] (I r_32) from (Ret.weak (g_table_Check_ret e33) ⟨(Weak.agg ⟨Weak.refl _, Weak.refl _, Weak.nil 14, trivial⟩), trivial⟩)) (zc (gd_ff b31) (z2 (zc b31 (z2 (zc (gd_ff b34) (z1 (zc (gd_ff b34) (z2 (zc b34 (z2 (zc (gd_ff b35) (z1 (zc (gd_ff b35) (z2 (zc b35 zt)))))))))))))))))))))))))))))))))) (fun s hs => Exists.intro (r_11.2.2 != 420) (And.intro h hs))

theorem g_law42_one_ret {t_1 : Tab} {s_2 : Sch} {r : (List Tab) × (List Sch)} (h : g_law42_one t_1 s_2 = some r) : Ret Tryz.prog 11 [(encTab t_1), (encSch s_2)] (.tup [(.sl 3 (r.1.map encTab)), (.sl 6 (r.2.map encSch))]) := by
  refine Ret.of_T Tryz.func11 (by kernel_rfl) rfl ?_
  refine T_turn [] [0, 1] [] (mk 10 [(0, (.agg (qTab t_1))), (1, (.agg (qSch s_2)))] []) (by kernel_rfl) ?_
  refine T_reg [] [2, 3] [] (mk 10 [(2, (rf 2 0)), (3, (rf 3 0))] [(3, (.var (qSch s_2))), (2, (.var (qTab t_1)))]) _ (by kernel_rfl) (z8 zt) ?_
  refine T_regD 6 [] [4, 5] [3, 2] (mk 10 [(4, (dt (.sl 3 ([t_1].map encTab)))), (5, (dt (.sl 6 ([s_2].map encSch))))] []) _ (by kernel_rfl) (by kernel_rfl) (by kernel_rfl) (zc (z3 (zc (show dfill (fun i => some (i * 3, 3)) (List.replicate (1 * 3) .junk) [(0, [(.dat (I t_1.s)), (.dat (I t_1.c)), (.dat (.sl 14 (t_1.l.map encPlace)))])] = some ((flat ([t_1].map encTab)).map .dat) from rfl) (z3 (zc (show dfill (fun i => some (i * 6, 6)) (List.replicate (1 * 6) .junk) [(0, [(.dat (I s_2.c)), (.dat (.sl 3 (s_2.p.map encPrize))), (.dat (I s_2.u)), (.dat (I s_2.d)), (.dat (I s_2.ab)), (.dat (I s_2.be))])] = some ((flat ([s_2].map encSch)).map .dat) from rfl) (z4 zt))))) zt) ?_
  refine T_ret ?_
  obtain rfl := some_inv h
  exact ret_here [(dt (.sl 3 ([t_1].map encTab))), (dt (.sl 6 ([s_2].map encSch)))] (by kernel_rfl) ⟨(.inl rfl), (.inl rfl), trivial⟩

theorem g_ref42_Few_ret {tables_1 : List Tab} {schemes_2 : List Sch} {r : Bool} (h : g_ref42_Few tables_1 schemes_2 = some r) : Ret Tryz.prog 10 [(.sl 3 (tables_1.map encTab)), (.sl 6 (schemes_2.map encSch))] (B (r)) := by
  refine Ret.of_T Tryz.func10 (by kernel_rfl) rfl ?_
  refine T_turn [] [0, 1] [] (mk 41 [(0, (dt (.sl 3 (tables_1.map encTab)))), (1, (dt (.sl 6 (schemes_2.map encSch))))] []) (by kernel_rfl) ?_
  refine T_reg [] [0, 1] [] (mk 41 [(0, (dt (.sl 3 (tables_1.map encTab)))), (1, (dt (.sl 6 (schemes_2.map encSch))))] []) _ (by kernel_rfl) (z2 zt) ?_
  refine T_seq ?_
  refine T_seqJ (α := Bool) (fun (v_3 : Bool) => (mk 41 [(0, (dt (.sl 3 (tables_1.map encTab)))), (1, (dt (.sl 6 (schemes_2.map encSch)))), (14, (db (v_3)))] [])) (fun (v_3 : Bool) => g_ref42_Few_j1 tables_1 schemes_2 v_3 = some r) (fun v_3 h => ?_) ?_
  refine T_cond (v_3) (by kernel_rfl) (fun b4 => ?_) (fun b4 => ?_)
  replace h := ite_t b4 h
  refine T_reg [] [4] [] (mk 41 [(4, (db false))] []) _ (by kernel_rfl) (z2 zt) ?_
  refine T_ret ?_
  obtain rfl := some_inv h
  exact ret_here [(db false)] (by kernel_rfl) (.inl rfl)
  replace h := ite_f b4 h
  refine T_skip ?_
  refine T_seqJ (α := Unit) (fun (_ : Unit) => (mk 41 [(1, (dt (.sl 6 (schemes_2.map encSch))))] [])) (fun (_ : Unit) => g_ref42_Few_j2 schemes_2 = some r) (fun v h => ?_) ?_
  refine T_seqJ (α := Unit) (fun (_ : Unit) => (mk 41 [] [])) (fun (_ : Unit) => g_ref42_Few_j3 = some r) (fun v h => ?_) ?_
  refine T_reg [] [4] [] (mk 41 [(4, (db true))] []) _ (by kernel_rfl) (z2 zt) ?_
  refine T_ret ?_
  obtain rfl := some_inv h
  exact ret_here [(db true)] (by kernel_rfl) (.inl rfl)
  refine T_reg [] [1, 6] [] (mk 41 [(1, (dt (.sl 6 (schemes_2.map encSch)))), (6, (di 0))] []) _ (by kernel_rfl) (z2 zt) ?_
  refine T_block ?_
  refine T_arr [] [1, 6] [] [] _ (by kernel_rfl) (T_loopO (σ := Nat) (fun (i_5 : Nat) => (mk 41 [(1, (dt (.sl 6 (schemes_2.map encSch)))), (6, (di ((i_5 : Nat) : Int)))] [])) (g_ref42_Few_l4 schemes_2) 0 h (fun i_5 y1 hy1 h => ?_))
  refine T_seq ?_
  refine T_reg [zn, zn, (zd (I ((schemes_2.length : Nat) : Int)))] [1, 6, 31] [] (mk 41 [(1, (dt (.sl 6 (schemes_2.map encSch)))), (6, (di ((i_5 : Nat) : Int))), (31, (db (decide (((i_5 : Nat) : Int) < ((schemes_2.length : Nat) : Int)))))] []) _ (by kernel_rfl) (z5 (zc (len_s encSch schemes_2) (z2 zt))) ?_
  refine T_cond (decide (((i_5 : Nat) : Int) < ((schemes_2.length : Nat) : Int))) (by kernel_rfl) (fun b7 => ?_) (fun b7 => ?_)
  replace h := ite_t b7 h
  refine T_skip ?_
  refine T_seq ?_
  refine T_block ?_
  obtain ⟨x_8, e9, e10, e11, h⟩ := gn_inv encSch h
  refine T_reg [zn, zn, (zd (encSch x_8)), zn, zn, (zd (I ((x_8.p.length : Nat) : Int)))] [1, 6, 40] [] (mk 41 [(1, (dt (.sl 6 (schemes_2.map encSch)))), (6, (di ((i_5 : Nat) : Int))), (40, (db (decide (((x_8.p.length : Nat) : Int) > 30))))] []) _ (by kernel_rfl) (z5 (zc e9 (z5 (zc (len_s encPrize x_8.p) (z2 zt))))) ?_
  refine T_cond (decide (((x_8.p.length : Nat) : Int) > 30)) (by kernel_rfl) (fun b12 => ?_) (fun b12 => ?_)
  replace h := ite_t b12 h
  refine T_reg [] [4] [] (mk 41 [(4, (db false))] []) _ (by kernel_rfl) (z2 zt) ?_
  refine T_ret ?_
  replace h := up_inv h hy1
  obtain rfl := some_inv h
  exact ret_here [(db false)] (by kernel_rfl) (.inl rfl)
  replace h := ite_f b12 h
  refine T_skip ?_
  obtain ⟨c13, h⟩ := ckI_inv h
  exact T_regJ [zn, (zd (I ((i_5 + 1 : Nat) : Int)))] [] [1, 6] [] [] _ _ (by kernel_rfl) (z3 (zc c13 (z2 zt))) (fun s hs => Exists.intro (i_5 + 1) (And.intro h hs))
  replace h := ite_f b7 h
  refine T_exit ?_
  replace h := up_inv h hy1
  exact Exists.intro () (And.intro h (arr [] [] [] [] (by kernel_rfl)))
  refine T_reg [] [0, 1, 5] [] (mk 41 [(0, (dt (.sl 3 (tables_1.map encTab)))), (1, (dt (.sl 6 (schemes_2.map encSch)))), (5, (di 0))] []) _ (by kernel_rfl) (z2 zt) ?_
  refine T_block ?_
  refine T_arr [] [0, 1, 5] [] [] _ (by kernel_rfl) (T_loopO (σ := Nat) (fun (i_14 : Nat) => (mk 41 [(0, (dt (.sl 3 (tables_1.map encTab)))), (1, (dt (.sl 6 (schemes_2.map encSch)))), (5, (di ((i_14 : Nat) : Int)))] [])) (g_ref42_Few_l5 tables_1 schemes_2) 0 h (fun i_14 y1 hy1 h => ?_))
  refine T_seq ?_
  refine T_reg [zn, zn, (zd (I ((tables_1.length : Nat) : Int)))] [0, 1, 5, 18] [] (mk 41 [(0, (dt (.sl 3 (tables_1.map encTab)))), (1, (dt (.sl 6 (schemes_2.map encSch)))), (5, (di ((i_14 : Nat) : Int))), (18, (db (decide (((i_14 : Nat) : Int) < ((tables_1.length : Nat) : Int)))))] []) _ (by kernel_rfl) (z5 (zc (len_s encTab tables_1) (z2 zt))) ?_
  refine T_cond (decide (((i_14 : Nat) : Int) < ((tables_1.length : Nat) : Int))) (by kernel_rfl) (fun b16 => ?_) (fun b16 => ?_)
  replace h := ite_t b16 h
  refine T_skip ?_
  refine T_seq ?_
  refine T_block ?_
  obtain ⟨x_17, e18, e19, e20, h⟩ := gn_inv encTab h
  refine T_reg [zn, zn, (zd (encTab x_17)), zn, zn, (zd (I ((x_17.l.length : Nat) : Int)))] [0, 1, 5, 27] [] (mk 41 [(0, (dt (.sl 3 (tables_1.map encTab)))), (1, (dt (.sl 6 (schemes_2.map encSch)))), (5, (di ((i_14 : Nat) : Int))), (27, (db (decide (((x_17.l.length : Nat) : Int) > 30))))] []) _ (by kernel_rfl) (z5 (zc e18 (z5 (zc (len_s encPlace x_17.l) (z2 zt))))) ?_
  refine T_cond (decide (((x_17.l.length : Nat) : Int) > 30)) (by kernel_rfl) (fun b21 => ?_) (fun b21 => ?_)
  replace h := ite_t b21 h
  refine T_reg [] [4] [] (mk 41 [(4, (db false))] []) _ (by kernel_rfl) (z2 zt) ?_
  refine T_ret ?_
  replace h := up_inv h hy1
  obtain rfl := some_inv h
  exact ret_here [(db false)] (by kernel_rfl) (.inl rfl)
  replace h := ite_f b21 h
  refine T_skip ?_
  obtain ⟨c22, h⟩ := ckI_inv h
  exact T_regJ [zn, (zd (I ((i_14 + 1 : Nat) : Int)))] [] [0, 1, 5] [] [] _ _ (by kernel_rfl) (z3 (zc c22 (z2 zt))) (fun s hs => Exists.intro (i_14 + 1) (And.intro h hs))
  replace h := ite_f b16 h
  refine T_exit ?_
  replace h := up_inv h hy1
  exact Exists.intro () (And.intro h (arr [] [1] [] [] (by kernel_rfl)))
  rcases Bool.eq_false_or_eq_true (decide (((tables_1.length : Nat) : Int) > 5)) with b23 | b23
  replace h := ite_t b23 h
  exact T_regJ [zn, (zd (I ((tables_1.length : Nat) : Int))), zn, zn, zg, zg, zg, (zd (B true))] [] [0, 1, 14] [] [] _ _ (by kernel_rfl) (z3 (zc (len_s encTab tables_1) (z4 (zc (gd_tf b23) (zc (gd_tf b23) (zc (gd_tf b23) (z1 (zc b23 zt)))))))) (fun s hs => Exists.intro true (And.intro h hs))
  replace h := ite_f b23 h
  exact T_regJ [zn, (zd (I ((tables_1.length : Nat) : Int))), zn, zn, zn, (zd (I ((schemes_2.length : Nat) : Int))), zn, (zd (B false))] [] [0, 1, 14] [] [] _ _ (by kernel_rfl) (z3 (zc (len_s encTab tables_1) (z4 (zc (gd_ff b23) (z1 (zc (gd_ff b23) (zc (len_s encSch schemes_2) (zc (gd_ff b23) (z2 (zc b23 zt)))))))))) (fun s hs => Exists.intro (decide (((schemes_2.length : Nat) : Int) > 5)) (And.intro h hs))

end Go.Proofs.YtoiiblkncbnlaaaGreat

/-
  Chapter 42: which clubs rise and fall. Conditions: those of each theorem.
-/
set_option linter.unusedVariables false
set_option linter.unusedSimpArgs false
namespace Go.Proofs.YtoiiblkncbnlaaaGreat
open Go.DL
def clubsL (l : List Place) : List Int := srtI (l.map clubOf)
def insAllI (l : List Int) : List Int := l.foldl (fun o n => insI n o) []
theorem insI_perm (n : Int) (l : List Int) : (insI n l).Perm (n :: l) := by
  induction l with
  | nil => exact List.Perm.refl _
  | cons x l ih =>
    rw [insI]; split
    · exact (ih.cons x).trans (List.Perm.swap n x l)
    · exact List.Perm.refl _
theorem insI_sorted {n : Int} {l : List Int} (h : l.Pairwise (· ≤ ·)) : (insI n l).Pairwise (· ≤ ·) := by
  induction l with
  | nil => simp [insI]
  | cons x l ih =>
    have h1 := List.pairwise_cons.1 h
    rw [insI]; split
    · rename_i hlt
      refine List.pairwise_cons.2 ⟨fun y hy => ?_, ih h1.2⟩
      rcases List.mem_cons.1 ((insI_perm n l).mem_iff.1 hy) with rfl | hy
      · omega
      · exact h1.1 y hy
    · rename_i hlt
      refine List.pairwise_cons.2 ⟨fun y hy => ?_, h⟩
      rcases List.mem_cons.1 hy with rfl | hy
      · omega
      · have := h1.1 y hy; omega
theorem foldl_ins (l : List Int) : ∀ o : List Int, o.Pairwise (· ≤ ·) → (l.foldl (fun o n => insI n o) o).Perm (o ++ l) ∧ (l.foldl (fun o n => insI n o) o).Pairwise (· ≤ ·) := by
  induction l with
  | nil => intro o h; exact ⟨by simp, h⟩
  | cons x l ih =>
    intro o h
    obtain ⟨h1, h2⟩ := ih (insI x o) (insI_sorted h)
    refine ⟨h1.trans ?_, h2⟩
    exact ((insI_perm x o).append_right l).trans (List.perm_middle.symm)
theorem insAllI_eq (l : List Int) : insAllI l = srtI l := by
  obtain ⟨h1, h2⟩ := foldl_ins l [] List.Pairwise.nil
  have h3 : (srtI l).Pairwise (· ≤ ·) := (List.pairwise_mergeSort (le := fun x y => decide (x ≤ y)) (fun a b c h1 h2 => by simp at *; omega) (fun a b => by simp; omega) l).imp fun h => by simpa using h
  exact ((h1.trans (by simp)).trans (srtI_perm l).symm).eq_of_pairwise (fun a b _ _ h1 h2 => by omega) h2 h3
def movE (t : Tab) (s : Sch) : Int := if fitS t s ≠ 0 then fitS t s else if s.u + s.d > (t.l.length : Int) then 420 else 0
def upM (t : Tab) (s : Sch) : List Int := if movE t s ≠ 0 then [] else clubsL (t.l.take s.u.toNat)
def downM (t : Tab) (s : Sch) : List Int := if movE t s ≠ 0 then [] else clubsL (t.l.drop (t.l.length - s.d.toNat))
theorem movE_bad {t : Tab} {s : Sch} (h : fitS t s ≠ 0) : movE t s = fitS t s := by rw [movE, if_pos h]
theorem movE_420 {t : Tab} {s : Sch} (h : fitS t s = 0) (h2 : s.u + s.d > (t.l.length : Int)) : movE t s = 420 := by rw [movE, if_neg (by omega), if_pos h2]
theorem movE_ok {t : Tab} {s : Sch} (h : fitS t s = 0) (h2 : ¬ s.u + s.d > (t.l.length : Int)) : movE t s = 0 := by rw [movE, if_neg (by omega), if_neg h2]
theorem upM_nil {t : Tab} {s : Sch} (h : movE t s ≠ 0) : upM t s = [] := by rw [upM, if_pos h]
theorem downM_nil {t : Tab} {s : Sch} (h : movE t s ≠ 0) : downM t s = [] := by rw [downM, if_pos h]
theorem upM_ok {t : Tab} {s : Sch} (h : movE t s = 0) : upM t s = clubsL (t.l.take s.u.toNat) := by rw [upM, if_neg (by omega)]
theorem downM_ok {t : Tab} {s : Sch} (h : movE t s = 0) : downM t s = clubsL (t.l.drop (t.l.length - s.d.toNat)) := by rw [downM, if_neg (by omega)]
theorem fit_ranges {t : Tab} {s : Sch} (h : fitS t s = 0) : 0 ≤ s.u ∧ s.u ≤ 24 ∧ 0 ≤ s.d ∧ s.d ≤ 24 ∧ 2 ≤ t.l.length ∧ t.l.length ≤ 24 := by
  obtain ⟨h1, h2, _⟩ := fitS_ok h
  rcases chkT_cases t with h3 | ⟨_, h3, _⟩
  · omega
  · rcases chkS_cases s with h4 | ⟨_, h4, _⟩
    · omega
    · unfold headT at h3; unfold headS at h4; omega
end Go.Proofs.YtoiiblkncbnlaaaGreat

/-
  Chapter 42: what the partial functions of the program compute: the checks. Conditions: those of each theorem.
-/
set_option linter.unusedVariables false
set_option linter.unusedSimpArgs false
namespace Go.DL
theorem loopO_ind {σ ρ : Type} {step : σ → Option (σ ⊕ ρ)} {r : ρ} (I : σ → Prop) (μ : σ → Nat) (h : ∀ x, I x → step x = some (.inr r) ∨ ∃ y, step x = some (.inl y) ∧ I y ∧ μ y < μ x) : ∀ x, I x → loopO step x = some r := by
  have key : ∀ n x, μ x = n → I x → loopO step x = some r := by
    intro n
    induction n using Nat.strongRecOn with
    | _ n ih =>
      intro x hn hx
      rcases h x hx with h1 | ⟨y, h1, h2, h3⟩
      · exact loopO_inr h1
      · rw [loopO_inl h1]
        exact ih (μ y) (by omega) y rfl h2
  exact fun x hx => key _ x rfl hx
end Go.DL
namespace Go.Proofs.YtoiiblkncbnlaaaGreat
open Go.DL
theorem within_eq (n a b : Int) : g_table_within n a b = some (decide (a ≤ n ∧ n ≤ b)) := by
  simp only [g_table_within]
  by_cases h1 : a ≤ n <;> by_cases h2 : n ≤ b <;> simp [h1, h2]
theorem within2_eq (n a b : Int) : g_prizes_Check_1 n a b = some (decide (a ≤ n ∧ n ≤ b)) := by
  simp only [g_prizes_Check_1]
  by_cases h1 : a ≤ n <;> by_cases h2 : n ≤ b <;> simp [h1, h2]
theorem checkRow_eq (r : Row) : g_table_checkRow r = some (rowOK r) := by
  unfold g_table_checkRow
  refine loopO_ind (fun k => k ≤ 9 ∧ ((nums r).drop k).all inR = (nums r).all inR) (fun k => 9 - k) ?_ 0 ⟨by omega, rfl⟩
  rintro k ⟨hk, iv⟩
  have h9 : (nums r).length = 9 := rfl
  by_cases hlt : k < 9
  · obtain ⟨x, hx⟩ : ∃ x, (nums r)[k]? = some x := ⟨_, List.getElem?_eq_getElem (by omega)⟩
    have hx' : ([r.pl, r.wo, r.dr, r.lo, r.fo, r.ag, r.af, r.aw, r.ca] : List Int)[k]? = some x := hx
    simp only [g_table_checkRow_l2, gn_some hx', within_eq, bd_some]
    by_cases hb : 0 ≤ x ∧ x ≤ 9999
    · right
      refine ⟨k + 1, ?_, ⟨by omega, all_step iv hx hb⟩, by omega⟩
      rw [ckI_pos (by omega) (by omega)]
      simp [hb]; omega
    · left
      have h1 : rowOK r = false := rowOK_no (all_stop iv hx (by omega))
      simp [hb, h1]; omega
  · left
    have he := all_end iv (by omega)
    have h1 : ¬ (k < 9) := by omega
    rw [rowOK_of he]
    by_cases hc : 0 ≤ r.c ∧ r.c ≤ 191 <;> by_cases hp : -99999 ≤ r.po ∧ r.po ≤ 99999 <;> simp [g_table_checkRow_l2, g_table_checkRow_j1, within_eq, h1, hc, hp] <;> omega
theorem row_step {t : Tab} {k : Nat} {m : List Int} {e x : Place} (hl : t.l.length ≤ 1000) (hx : t.l[k]? = some x) (he : 0 < k → t.l[k - 1]? = some e) (im : Seen m t.l k) (iml : m.length ≤ k) (hc : rowOK x.r = true → 0 ≤ x.r.c ∧ x.r.c ≤ 191) :
    g_table_Check_l3 t (k, m) = if placeOK k e ((t.l.take k).map clubOf) x then some (.inl (k + 1, sput m x.r.c)) else some (.inr 1) := by
  have hlt := (List.getElem?_eq_some_iff.1 hx).1
  have hs := im x.r.c
  have hmem : ∀ b, smem m x.r.c = b → (x.r.c ∉ (t.l.take k).map clubOf ↔ b = false) := fun b hb => by
    rw [hs] at hb; rw [← hb]; simp
  have hmx : m.length < maxLen := by simp only [maxLen]; omega
  have h6 : ∀ b, rowOK x.r = true → g_table_Check_j6 x m k t b = if b = true then some (.inr 1) else some (.inl (k + 1, sput m x.r.c)) := fun b hr => by
    have := hc hr
    cases b
    · simp only [g_table_Check_j6]; rw [ckI_pos (by omega) (by omega), ck_pos hmx, ckI_pos (by omega) (by omega)]; simp
    · simp [g_table_Check_j6]
  have h6t : g_table_Check_j6 x m k t true = some (.inr 1) := by simp [g_table_Check_j6]
  have h5 : ∀ b, g_table_Check_j5 x m k t b = if b = true ∧ x.z.length ≤ 24 ∧ rowOK x.r = true ∧ smem m x.r.c = false then some (.inl (k + 1, sput m x.r.c)) else some (.inr 1) := fun b => by
    simp only [g_table_Check_j5, checkRow_eq, bd_some, h6t]
    cases b
    · simp
    · by_cases hz : x.z.length ≤ 24
      · cases hr : rowOK x.r
        · simp
        · have := hc hr
          simp only [h6 _ hr]
          rw [ckI_pos (by omega) (by omega)]
          cases smem m x.r.c <;> simp [hz] <;> omega
      · simp [hz]; omega
  have e1 : -9223372036854775808 ≤ ((k : Nat) : Int) + 1 ∧ ((k : Nat) : Int) + 1 ≤ 9223372036854775807 := by omega
  have hsm := hmem _ rfl
  obtain ⟨R, hR⟩ : ∃ R, R = if placeOK k e ((t.l.take k).map clubOf) x then (some (.inl (k + 1, sput m x.r.c)) : Option ((Nat × List Int) ⊕ Int)) else some (.inr 1) := ⟨_, rfl⟩
  rw [← hR]
  have hend : ∀ b : Bool, (b = true ↔ shapeOK k e x) → g_table_Check_j5 x m k t b = R := fun b hb => by
    rw [h5, hR]
    by_cases hp : placeOK k e ((t.l.take k).map clubOf) x
    · rw [if_pos hp, if_pos ⟨hb.2 hp.1, hp.2.1, hp.2.2.1, hsm.1 hp.2.2.2⟩]
    · rw [if_neg hp, if_neg fun h => hp ⟨hb.1 h.1, h.2.1, h.2.2.1, hsm.2 h.2.2.2⟩]
  rcases Nat.eq_zero_or_pos k with h0 | h0
  · subst h0
    have j7 : ∀ b, g_table_Check_j4 0 t x m b = g_table_Check_j5 x m 0 t b := fun b => by simp [g_table_Check_j4, g_table_Check_j7]
    simp only [g_table_Check_l3, gn_some hx, within_eq, bd_some, j7]
    rw [ckI_pos e1.1 e1.2, if_pos (by simp; omega)]
    simp
    repeat' split
    all_goals (refine hend _ ?_; unfold shapeOK; simp_all; try omega)
  · have hg : t.l[(((k : Nat) : Int) - 1).toNat]? = some e := by rw [show (((k : Nat) : Int) - 1).toNat = k - 1 from by omega]; exact he h0
    have hk0 : ¬ k = 0 := by omega
    have j4 : ∀ b, g_table_Check_j4 k t x m b = if x.k = e.k then (if x.b = 0 then g_table_Check_j5 x m k t (decide (x.r.c > e.r.c)) else g_table_Check_j5 x m k t false) else g_table_Check_j5 x m k t b := fun b => by
      simp only [g_table_Check_j4, g_table_Check_j7]
      rw [if_pos (by simp; omega), ckI_pos (by omega) (by omega), gt_some hg (by omega), ckI_pos (by omega) (by omega), gt_some hg (by omega)]
      simp
    simp only [g_table_Check_l3, gn_some hx, within_eq, bd_some, j4]
    rw [ckI_pos e1.1 e1.2, if_pos (by simp; omega)]
    simp [h0, hk0]
    repeat' split
    all_goals (refine hend _ ?_; unfold shapeOK; simp_all; try omega)
theorem rowOK_c {r : Row} (h : rowOK r = true) : 0 ≤ r.c ∧ r.c ≤ 191 := by
  unfold rowOK at h
  rw [Bool.and_eq_true] at h
  have := of_decide_eq_true h.2
  omega
theorem tloop_eq {t : Tab} (hl : t.l.length ≤ 1000) (hh : headT t) : loopO (g_table_Check_l3 t) (0, []) = some (chkT t) := by
  refine loopO_ind (fun v => ∃ e, v.1 ≤ t.l.length ∧ plOK v.1 e ((t.l.take v.1).map clubOf) (t.l.drop v.1) = plOK 0 noPlace [] t.l ∧ (0 < v.1 → t.l[v.1 - 1]? = some e) ∧ Seen v.2 t.l v.1 ∧ v.2.length ≤ v.1) (fun v => t.l.length - v.1) ?_ (0, []) ⟨noPlace, by simp, rfl, by simp, seen_zero _, by simp⟩
  rintro ⟨k, m⟩ ⟨e, hk, iv, he, im, iml⟩
  dsimp only at hk iv he im iml
  by_cases hlt : k < t.l.length
  · obtain ⟨x, hx⟩ : ∃ x, t.l[k]? = some x := ⟨_, List.getElem?_eq_getElem hlt⟩
    rw [row_step hl hx he im iml rowOK_c]
    by_cases hp : placeOK k e ((t.l.take k).map clubOf) x
    · right
      rw [if_pos hp]
      refine ⟨_, rfl, ⟨x, hlt, plOK_step iv hx hp, fun _ => by simpa using hx, seen_step im hx, ?_⟩, by dsimp only; omega⟩
      have := sput_le x.r.c m
      dsimp only; omega
    · left
      rw [if_neg hp, ← chkT_bad2 (plOK_stop iv hx hp)]
  · left
    have h1 : ¬ (k < t.l.length) := hlt
    have h2 := chkT_ok hh (plOK_end iv (by omega))
    simp [g_table_Check_l3, g_table_Check_j2, h1, ← h2]
theorem tcheck_eq {t : Tab} (hl : t.l.length ≤ 1000) : g_table_Check t = some (chkT t) := by
  simp only [g_table_Check, within_eq, bd_some]
  have j1 : g_table_Check_j1 t true = some 1 := by simp [g_table_Check_j1]
  by_cases h : headT t
  · obtain ⟨h1, h2, h3, h4, h5, h6⟩ := h
    have j2 : g_table_Check_j1 t false = some (chkT t) := by simp only [g_table_Check_j1]; exact tloop_eq hl ⟨h1, h2, h3, h4, h5, h6⟩
    have g1 : (2 : Int) ≤ (t.l.length : Int) ∧ (t.l.length : Int) ≤ 24 := by omega
    simp [h1, h2, h3, h4, g1, j2]
  · rw [← chkT_bad h]
    unfold headT at h
    by_cases h1 : 0 ≤ t.s ∧ t.s ≤ 63 <;> by_cases h2 : 0 ≤ t.c ∧ t.c ≤ 15
    · have g1 : ¬ ((2 : Int) ≤ (t.l.length : Int) ∧ (t.l.length : Int) ≤ 24) := by omega
      simp only [h1, h2, g1, j1]; simp [j1]
    all_goals simp [h1, h2, j1]
end Go.Proofs.YtoiiblkncbnlaaaGreat

/-
  Chapter 42: what the partial functions compute: schemes, what fits. Conditions: those of each theorem.
-/
set_option linter.unusedVariables false
set_option linter.unusedSimpArgs false
namespace Go.Proofs.YtoiiblkncbnlaaaGreat
open Go.DL
set_option maxHeartbeats 4000000
theorem pj2_eq {s : Sch} {n : Int} (hh : headS s) : g_prizes_Check_j2 s n = some (if n ≤ 1125899906842624 ∧ tailS s then 0 else 420) := by
  unfold headS at hh
  obtain ⟨_, _, _, hu, _, hd, _⟩ := hh
  obtain ⟨R, hR⟩ : ∃ R : Int, R = if n ≤ 1125899906842624 ∧ tailS s then 0 else 420 := ⟨_, rfl⟩
  have h0 : n ≤ 1125899906842624 ∧ tailS s → some (0 : Int) = some R := fun h => by rw [hR, if_pos h]
  have h1 : ¬ (n ≤ 1125899906842624 ∧ tailS s) → some (420 : Int) = some R := fun h => by rw [hR, if_neg h]
  rw [← hR]
  clear hR
  unfold tailS at h0 h1
  simp only [g_prizes_Check_j2, g_prizes_Check_j4, g_prizes_Check_j5, g_prizes_Check_j3, within2_eq, bd_some, decide_eq_true_eq, Bool.not_eq_true', decide_eq_false_iff_not, beq_iff_eq, bne_iff_ne, bne_eq_false_iff_eq, Bool.false_eq_true, if_true, if_false]
  repeat' split
  all_goals first | (refine h1 ?_; omega) | (refine h0 ?_; omega)
theorem ploop_eq {s : Sch} (hh : headS s) : loopO (g_prizes_Check_l6 s) (0, 0, 0) = some (chkS s) := by
  have hlen := hh.2.2.1
  refine loopO_ind (fun v => v.2.2 ≤ s.p.length ∧ prOK v.2.1 (s.p.drop v.2.2) = prOK 0 s.p ∧ sumL v.1 ((s.p.drop v.2.2).map (·.a)) = sumA s.p ∧ 0 ≤ v.1 ∧ v.1 ≤ 1125899906842624 * (v.2.2 : Int)) (fun v => s.p.length - v.2.2) ?_ (0, 0, 0) ⟨by simp, rfl, rfl, by simp, by simp⟩
  rintro ⟨n, la, k⟩ ⟨hk, iv, is, hn0, hn1⟩
  dsimp only at hk iv is hn0 hn1
  by_cases hlt : k < s.p.length
  · obtain ⟨x, hx⟩ : ∃ x, s.p[k]? = some x := ⟨_, List.getElem?_eq_getElem hlt⟩
    have j7t : g_prizes_Check_j7 n x k s true = some (.inr 420) := by simp [g_prizes_Check_j7]
    have j7f : g_prizes_Check_j7 n x k s (!decide (1 ≤ x.a ∧ x.a ≤ 1125899906842624)) = if 1 ≤ x.a ∧ x.a ≤ 1125899906842624 then some (.inl (n + x.a, x.t, k + 1)) else some (.inr 420) := by
      by_cases ha : 1 ≤ x.a ∧ x.a ≤ 1125899906842624
      · rw [if_pos ha, decide_eq_true ha]
        simp only [g_prizes_Check_j7]
        rw [ckI_pos (by omega) (by omega), ckI_pos (by omega) (by omega)]; simp
      · rw [if_neg ha, decide_eq_false ha]; exact j7t
    have hstep : g_prizes_Check_l6 s (n, la, k) = if x.f ≤ la ∨ x.t < x.f ∨ x.t > 24 ∨ x.a < 1 ∨ x.a > 1125899906842624 then some (.inr 420) else some (.inl (n + x.a, x.t, k + 1)) := by
      simp only [g_prizes_Check_l6, gn_some hx, within2_eq, bd_some, j7t, j7f]
      rw [if_pos (by simp; omega)]
      by_cases h1 : x.f ≤ la
      · simp [h1]
      · by_cases h2 : x.t < x.f
        · simp [h1, h2]
        · by_cases h3 : x.t > 24
          · simp [h1, h2, h3]
          · by_cases h4 : 1 ≤ x.a ∧ x.a ≤ 1125899906842624
            · have h5 : ¬ (x.f ≤ la ∨ x.t < x.f ∨ x.t > 24 ∨ x.a < 1 ∨ x.a > 1125899906842624) := by omega
              rw [if_pos h4, if_neg h5]; simp [h1, h2, h3]
            · have h5 : x.f ≤ la ∨ x.t < x.f ∨ x.t > 24 ∨ x.a < 1 ∨ x.a > 1125899906842624 := by omega
              rw [if_neg h4, if_pos h5]; simp [h1, h2, h3]
    rw [hstep]
    by_cases hb : x.f ≤ la ∨ x.t < x.f ∨ x.t > 24 ∨ x.a < 1 ∨ x.a > 1125899906842624
    · left; rw [if_pos hb, ← chkS_bad2 (prOK_stop iv hx hb)]
    · right
      rw [if_neg hb]
      exact ⟨_, rfl, ⟨hlt, prOK_step iv hx hb, sumA_step is hx, by dsimp only; omega, by dsimp only; omega⟩, by dsimp only; omega⟩
  · left
    have hs := sumA_end is (by omega)
    have hp := prOK_end iv (by omega)
    have h1 : g_prizes_Check_l6 s (n, la, k) = up (g_prizes_Check_j2 s n) := by simp [g_prizes_Check_l6, hlt]
    rw [h1, pj2_eq hh, up_some]
    congr 2
    rw [chkS]
    by_cases ht : n ≤ 1125899906842624 ∧ tailS s
    · rw [if_pos ht, if_pos ⟨hh, ht.2, hp, by omega⟩]
    · rw [if_neg ht, if_neg]; rintro ⟨_, h2, _, h3⟩; exact ht ⟨by omega, h2⟩
theorem pcheck_eq {s : Sch} (hl : s.p.length ≤ 1000) : g_prizes_Check s = some (chkS s) := by
  simp only [g_prizes_Check, within2_eq, bd_some]
  have j1t : g_prizes_Check_j1 s true = some 420 := by simp [g_prizes_Check_j1]
  by_cases hh : headS s
  · have j1f : g_prizes_Check_j1 s false = some (chkS s) := by simp only [g_prizes_Check_j1]; exact ploop_eq hh
    obtain ⟨h1, h2, h3, h4, h5, h6, h7⟩ := hh
    have g1 : ¬ ((s.p.length : Int) > 24) := by omega
    simp [h1, h2, h4, h5, h6, h7, g1, j1f]
  · rw [← chkS_bad (fun h => hh h.1)]
    unfold headS at hh
    by_cases h1 : 0 ≤ s.c ∧ s.c ≤ 7
    · by_cases h2 : 0 ≤ s.u ∧ s.u ≤ 24
      · by_cases h3 : 0 ≤ s.d ∧ s.d ≤ 24
        · have g1 : (s.p.length : Int) > 24 := by omega
          simp only [h1, h2, h3, g1, j1t]; simp [j1t]
        · simp [h1, h2, h3, j1t]
      · simp [h1, h2, j1t]
    · simp [h1, j1t]
end Go.Proofs.YtoiiblkncbnlaaaGreat

/-
  The data-level framework, third series, part e: partial functions have values with a property: one rule for each shape of step, and a tactic that applies them. Generic; no condition.
-/
set_option linter.unusedVariables false
set_option linter.unusedSimpArgs false
namespace Go.DL
def WP {α : Type} (o : Option α) (Q : α → Prop) : Prop := ∃ x, o = some x ∧ Q x
section
variable {α β ρ σ : Type} {Q : ρ → Prop}
theorem WP.eq {o : Option ρ} {r : ρ} (h : WP o fun x => x = r) : o = some r := by obtain ⟨x, h1, rfl⟩ := h; exact h1
theorem WP.of {o : Option ρ} {r : ρ} (h : o = some r) (hq : Q r) : WP o Q := ⟨r, h, hq⟩
theorem WP.mono {o : Option ρ} {Q' : ρ → Prop} (h : WP o Q') (hq : ∀ x, Q' x → Q x) : WP o Q := by obtain ⟨x, h1, h2⟩ := h; exact ⟨x, h1, hq x h2⟩
theorem WP.ret {x : ρ} (h : Q x) : WP (some x) Q := ⟨x, rfl, h⟩
theorem WP.iteD {p : Prop} [d : Decidable p] [i : Decidable (decide p = true)] {a b : Option ρ} (h1 : p → WP a Q) (h2 : ¬ p → WP b Q) : WP (@ite _ (decide p = true) i a b) Q := by
  by_cases h : p
  · rw [if_pos (decide_eq_true h)]; exact h1 h
  · rw [if_neg (by simp [h])]; exact h2 h
theorem WP.iteE [DecidableEq α] {x y : α} [i : Decidable ((x == y) = true)] {a b : Option ρ} (h1 : x = y → WP a Q) (h2 : ¬ x = y → WP b Q) : WP (@ite _ ((x == y) = true) i a b) Q := by
  by_cases h : x = y
  · rw [if_pos (beq_iff_eq.2 h)]; exact h1 h
  · rw [if_neg (by simp [h])]; exact h2 h
theorem WP.iteN [DecidableEq α] {x y : α} [i : Decidable ((x != y) = true)] {a b : Option ρ} (h1 : ¬ x = y → WP a Q) (h2 : x = y → WP b Q) : WP (@ite _ ((x != y) = true) i a b) Q := by
  by_cases h : x = y
  · rw [if_neg (by simp [h])]; exact h2 h
  · rw [if_pos (bne_iff_ne.2 h)]; exact h1 h
theorem WP.iteT [i : Decidable (true = true)] {a b : Option ρ} (h : WP a Q) : WP (@ite _ (true = true) i a b) Q := by rw [if_pos rfl]; exact h
theorem WP.iteF [i : Decidable (false = true)] {a b : Option ρ} (h : WP b Q) : WP (@ite _ (false = true) i a b) Q := by rw [if_neg (by simp)]; exact h
theorem WP.iteNb {c : Bool} [i : Decidable ((!c) = true)] {a b : Option ρ} (h : WP (if c = true then b else a) Q) : WP (@ite _ ((!c) = true) i a b) Q := by
  cases c
  · rw [if_pos (show (!false) = true from rfl)]; rwa [if_neg (by simp)] at h
  · rw [if_neg (show ¬ (!true) = true by simp)]; rwa [if_pos rfl] at h
theorem WP.iteB {c : Bool} [i : Decidable (c = true)] {a b : Option ρ} (h1 : c = true → WP a Q) (h2 : c = false → WP b Q) : WP (@ite _ (c = true) i a b) Q := by
  cases c
  · rw [if_neg (by simp)]; exact h2 rfl
  · rw [if_pos rfl]; exact h1 rfl
theorem WP.ckI {n : Int} {o : Option ρ} (hn : -9223372036854775808 ≤ n ∧ n ≤ 9223372036854775807) (h : WP o Q) : WP (Go.DL.ckI n o) Q := by rw [ckI_pos hn.1 hn.2]; exact h
theorem WP.ck {p : Prop} [Decidable p] {o : Option ρ} (hp : p) (h : WP o Q) : WP (Go.DL.ck p o) Q := by rw [ck_pos hp]; exact h
theorem WP.gn {l : List α} {n : Nat} {k : α → Option ρ} (hn : n < l.length) (h : ∀ x, l[n]? = some x → WP (k x) Q) : WP (Go.DL.gn l n k) Q := by
  have hx : l[n]? = some l[n] := List.getElem?_eq_getElem hn
  rw [gn_some hx]; exact h _ hx
theorem WP.gt {l : List α} {i : Int} {k : α → Option ρ} (hn : 0 ≤ i ∧ i < (l.length : Int)) (h : ∀ x, l[i.toNat]? = some x → WP (k x) Q) : WP (Go.DL.gt l i k) Q := by
  have hx : l[i.toNat]? = some (l[i.toNat]'(by omega)) := List.getElem?_eq_getElem (by omega)
  rw [gt_some hx hn.1]; exact h _ hx
theorem WP.bd {o : Option α} {k : α → Option ρ} {r : α} (ho : o = some r) (h : WP (k r) Q) : WP (Go.DL.bd o k) Q := by rw [ho]; exact h
theorem WP.bdW {o : Option α} {k : α → Option ρ} (h : WP o fun x => WP (k x) Q) : WP (Go.DL.bd o k) Q := by obtain ⟨x, h1, h2⟩ := h; rw [h1]; exact h2
theorem WP.up {o : Option ρ} {Q : σ ⊕ ρ → Prop} (h : WP o fun r => Q (.inr r)) : WP (Go.DL.up o) Q := by obtain ⟨x, h1, h2⟩ := h; exact ⟨.inr x, by rw [h1]; rfl, h2⟩
theorem WP.letO {x : α} {k : α → Option ρ} (h : WP (k x) Q) : WP (Go.DL.letO x k) Q := h
theorem WP.sb {l : List α} {lo hi : Option Int} {k : List α → Option ρ} (h0 : 0 ≤ lo.getD 0 ∧ lo.getD 0 ≤ hi.getD l.length ∧ hi.getD l.length ≤ (l.length : Int)) (h : WP (k (subList l lo hi)) Q) : WP (Go.DL.sb l lo hi k) Q := by
  unfold Go.DL.sb; rw [if_pos h0]; exact h
theorem WP.sbp {n : Nat} {lo hi : Option Int} {k : Nat → Nat → Option ρ} (h0 : 0 ≤ lo.getD 0 ∧ lo.getD 0 ≤ hi.getD n ∧ hi.getD n ≤ (n : Int)) (h : WP (k (lo.getD 0).toNat ((hi.getD n).toNat - (lo.getD 0).toNat)) Q) : WP (Go.DL.sbp n lo hi k) Q := by
  unfold Go.DL.sbp; rw [if_pos h0]; exact h
/-- What one round of a loop leaves: another round's state, which is nearer the end, or the result. -/
def Rnd (I : σ → Prop) (μ : σ → Nat) (n : Nat) (Q : ρ → Prop) : σ ⊕ ρ → Prop
  | .inl y => I y ∧ μ y < n
  | .inr r => Q r
theorem WP.loop {step : σ → Option (σ ⊕ ρ)} {x : σ} (I : σ → Prop) (μ : σ → Nat) (h : ∀ x, I x → WP (step x) (Rnd I μ (μ x) Q)) (h0 : I x) : WP (loopO step x) Q := by
  have key : ∀ n x, μ x = n → I x → WP (loopO step x) Q := by
    intro n
    induction n using Nat.strongRecOn with
    | _ n ih =>
      intro x hn hx
      obtain ⟨z, h1, h2⟩ := h x hx
      match z, h1, h2 with
      | .inr r, h1, h2 => exact ⟨r, loopO_inr h1, h2⟩
      | .inl y, h1, h2 => rw [loopO_inl h1]; have := h2.2; exact ih (μ y) (by omega) y rfl h2.1
  exact key _ x rfl h0
end
end Go.DL

/-
  Chapter 42: what the reference's checks compute. Conditions: those of each theorem.
-/
set_option linter.unusedVariables false
set_option linter.unusedSimpArgs false
namespace Go.Proofs.YtoiiblkncbnlaaaGreat
open Go.DL
set_option maxHeartbeats 4000000
end Go.Proofs.YtoiiblkncbnlaaaGreat

/-
  Chapter 42: what the reference's check of a table computes; what fits. Conditions: those of each theorem.
-/
set_option linter.unusedVariables false
set_option linter.unusedSimpArgs false
namespace Go.Proofs.YtoiiblkncbnlaaaGreat
open Go.DL
set_option maxHeartbeats 4000000
section
variable {t : Tab} {i : Nat} {x e : Place} {K : Nat ⊕ Int → Prop}
end
theorem fits_eq {t : Tab} {s : Sch} (hl : t.l.length ≤ 1000) (hs : s.p.length ≤ 1000) : g_prizes_fits t s = some (fitS t s) := by
  refine WP.eq ?_
  unfold g_prizes_fits fitS
  refine WP.bd (tcheck_eq hl) ?_
  (repeat' (first | with_reducible (first | refine WP.iteT ?_ | refine WP.iteF ?_ | refine WP.iteNb ?_ | refine WP.iteD (fun _ => ?_) (fun _ => ?_) | refine WP.iteE (fun _ => ?_) (fun _ => ?_) | refine WP.iteN (fun _ => ?_) (fun _ => ?_) | refine WP.iteB (fun _ => ?_) (fun _ => ?_)) | (with_reducible refine WP.ckI ?_ ?_; · omega) | (with_reducible refine WP.gn ?_ (fun _ _ => ?_); · omega) | (with_reducible refine WP.gt ?_ (fun _ _ => ?_); · omega) | with_reducible (first | refine WP.up ?_ | refine WP.letO ?_ | refine WP.ret ?_)))
  · rw [if_pos ‹_›]
  · rename_i h
    rw [if_neg (show ¬ chkT t ≠ 0 by omega)]
    refine WP.bd (pcheck_eq hs) ?_
    refine WP.iteN (fun h2 => ?_) (fun h2 => ?_)
    · rw [if_pos h2]; exact WP.ret rfl
    · rw [if_neg (show ¬ chkS s ≠ 0 by omega)]
      refine WP.iteN (fun h3 => ?_) (fun h3 => ?_)
      · rw [if_pos h3]; exact WP.ret rfl
      · rw [if_neg (show ¬ t.c ≠ s.c by omega)]; exact WP.ret rfl
end Go.Proofs.YtoiiblkncbnlaaaGreat

/-
  Chapter 42: the reference's prizes, plainly. Conditions: those of each theorem.
-/
set_option linter.unusedVariables false
set_option linter.unusedSimpArgs false
namespace Go.Proofs.YtoiiblkncbnlaaaGreat
open Go.DL
theorem part_here {ps : List Prize} {r y : Int} {k : Nat} {x : Prize} (iv : part (ps.drop k) r = part ps r) (hx : ps[k]? = some x) (h1 : x.f ≤ r ∧ r ≤ x.t) (hy : (eqL x.a (x.t - x.f + 1).toNat)[(r - x.f).toNat]? = some y) : y = part ps r := by
  rw [← iv, drop_cons hx, part, if_pos h1, List.getD, hy]; rfl
theorem part_skip {ps : List Prize} {r : Int} {k : Nat} {x : Prize} (iv : part (ps.drop k) r = part ps r) (hx : ps[k]? = some x) (h1 : ¬ (x.f ≤ r ∧ r ≤ x.t)) : part (ps.drop (k + 1)) r = part ps r := by
  rw [← iv, drop_cons hx, part, if_neg h1]
theorem part_bounds42 {ps : List Prize} {last : Int} (h : prOK last ps = true) (r : Int) : 0 ≤ part ps r ∧ part ps r ≤ 1125899906842624 := by
  induction ps generalizing last with
  | nil => simp [part]
  | cons q l ih =>
    have hm := prOK_mem h q (by simp)
    rw [prOK] at h
    split at h
    · cases h
    · rw [part]; split
      · rename_i hr
        have hlt : (r - q.f).toNat < (q.t - q.f + 1).toNat := by omega
        have hb := eqL_bounds (a := q.a) (n := (q.t - q.f + 1).toNat) (by omega) (List.mem_of_getElem? (eqL_get (by omega) hlt))
        rw [List.getD, eqL_get (by omega) hlt]
        simp only [Option.getD_some]
        omega
      · exact ih h
theorem partL_get (ps : List Prize) {i : Nat} (h : i < 24) : (partL ps)[i]? = some (part ps ((i + 1 : Nat) : Int)) := by
  simp only [partL, List.getElem?_map, List.getElem?_range h, Option.map_some]; rfl
theorem sumL_snoc (l : List Int) (x : Int) : sumL 0 (l ++ [x]) = sumL 0 l + x := by
  have : ∀ n : Int, sumL n (l ++ [x]) = sumL n l + x := by
    induction l with
    | nil => intro n; rfl
    | cons y l ih => intro n; simp only [List.cons_append, sumL]; exact ih _
  exact this 0
theorem share_yes {ps : List Place} {ns : List Int} {j : Nat} {y : Place} {n : Int} (hp : ps[j]? = some y) (hn : ns[j]? = some n) (h : n > 0) : share (ps.drop j) (ns.drop j) = ⟨y.r.c, n⟩ :: share (ps.drop (j + 1)) (ns.drop (j + 1)) := by
  rw [drop_cons hp, drop_cons hn, share, if_pos h]
theorem share_no {ps : List Place} {ns : List Int} {j : Nat} {y : Place} {n : Int} (hp : ps[j]? = some y) (hn : ns[j]? = some n) (h : ¬ n > 0) : share (ps.drop j) (ns.drop j) = share (ps.drop (j + 1)) (ns.drop (j + 1)) := by
  rw [drop_cons hp, drop_cons hn, share, if_neg h]
abbrev insF (o : List Pay) (l : List Pay) : List Pay := l.foldl (fun o p => insP p o) o
end Go.Proofs.YtoiiblkncbnlaaaGreat
namespace Go.Proofs.YtoiiblkncbnlaaaGreat
open Go.DL
theorem fit_prizes {t : Tab} {s : Sch} (h : fitS t s = 0) : prOK 0 s.p = true ∧ sumA s.p ≤ 1125899906842624 ∧ s.p.length ≤ 24 := by
  obtain ⟨_, h2, _⟩ := fitS_ok h
  rcases chkS_cases s with h4 | ⟨_, h4, _, h5, h6⟩
  · omega
  · unfold headS at h4; exact ⟨h5, h6, by omega⟩
end Go.Proofs.YtoiiblkncbnlaaaGreat

/-
  Chapter 42: all parts together are the amounts. Conditions: those of each theorem.
-/
set_option linter.unusedVariables false
set_option linter.unusedSimpArgs false
namespace Go.Proofs.YtoiiblkncbnlaaaGreat
open Go.DL
theorem sumL_append (l m : List Int) : sumL 0 (l ++ m) = sumL 0 l + sumL 0 m := by
  have : ∀ n : Int, sumL n (l ++ m) = sumL n l + sumL 0 m := by
    induction l with
    | nil => intro n; have := sumL_add m 0 n; simp only [List.nil_append, sumL]; rw [← Int.zero_add n, this]; omega
    | cons y l ih => intro n; simp only [List.cons_append, sumL]; exact ih _
  exact this 0
theorem sumL_rep0 (n : Nat) : sumL 0 (List.replicate n 0) = 0 := by
  induction n with
  | zero => rfl
  | succ n ih => rw [List.replicate_succ']; rw [sumL_append, ih]; rfl
theorem eqL_list {a : Int} (ha : 0 ≤ a) (n : Nat) : eqL a n = (List.range n).map fun j : Nat => a / n + if (j : Int) < a % n then 1 else 0 := by
  apply List.ext_getElem?
  intro j
  by_cases hj : j < n
  · rw [eqL_get ha hj, List.getElem?_map, List.getElem?_range hj]; rfl
  · rw [List.getElem?_eq_none (by rw [eqL_length]; omega), List.getElem?_eq_none (by simp; omega)]
theorem sum_range_ind (c r : Int) (h0 : 0 ≤ r) : ∀ n : Nat, sumL 0 ((List.range n).map fun j : Nat => c + if (j : Int) < r then 1 else 0) = c * n + (if (n : Int) ≤ r then (n : Int) else r)
  | 0 => by simp [sumL]; omega
  | n + 1 => by
    rw [List.range_succ, List.map_append, sumL_append, sum_range_ind c r h0 n]
    simp only [List.map_cons, List.map_nil, sumL, Int.natCast_add, Int.natCast_one, Int.mul_add, Int.mul_one]
    split <;> split <;> split <;> omega
theorem eqL_sum {a : Int} {n : Nat} (ha : 0 ≤ a) (hn : 1 ≤ n) : sumL 0 (eqL a n) = a := by
  have h1 := Int.emod_nonneg a (show (n : Int) ≠ 0 by omega)
  have h2 := Int.emod_lt_of_pos a (show (0 : Int) < n by omega)
  have h3 := Int.mul_ediv_add_emod a n
  rw [eqL_list ha, sum_range_ind _ _ h1, if_neg (by omega), Int.mul_comm]
  omega
/-- What one prize gives to the ranks. -/
def onePart (q : Prize) (i : Nat) : Int := if q.f ≤ ((i + 1 : Nat) : Int) ∧ ((i + 1 : Nat) : Int) ≤ q.t then (eqL q.a (q.t - q.f + 1).toNat).getD (((i + 1 : Nat) : Int) - q.f).toNat 0 else 0
theorem onePart_list {q : Prize} (h1 : 1 ≤ q.f) (h2 : q.f ≤ q.t) (h3 : q.t ≤ 24) : (List.range 24).map (onePart q) = List.replicate (q.f.toNat - 1) 0 ++ eqL q.a (q.t - q.f + 1).toNat ++ List.replicate (24 - q.t.toNat) 0 := by
  have hlen := eqL_length q.a (q.t - q.f + 1).toNat
  apply List.ext_getElem?
  intro j
  by_cases hj : j < 24
  · rw [List.getElem?_map, List.getElem?_range hj, Option.map_some, onePart]
    by_cases ha : (j : Int) + 1 < q.f
    · rw [if_neg (by omega), List.append_assoc, List.getElem?_append_left (by simp; omega), List.getElem?_replicate, if_pos (by omega)]
    · by_cases hb : (j : Int) + 1 ≤ q.t
      · rw [if_pos (by omega), List.append_assoc, List.getElem?_append_right (by simp; omega), List.getElem?_append_left (by simp; omega), List.length_replicate, List.getD]
        have e : (((j + 1 : Nat) : Int) - q.f).toNat = j - (q.f.toNat - 1) := by omega
        rw [e, List.getElem?_eq_getElem (by omega)]; rfl
      · rw [if_neg (by omega), List.getElem?_append_right (by simp; omega), List.getElem?_replicate, if_pos (by simp; omega)]
  · rw [List.getElem?_eq_none (by simp; omega), List.getElem?_eq_none (by simp; omega)]
theorem map_add (l : List Nat) (f g : Nat → Int) : sumL 0 (l.map fun i => f i + g i) = sumL 0 (l.map f) + sumL 0 (l.map g) := by
  induction l with
  | nil => rfl
  | cons x l ih =>
    have e : ∀ (y : Int) (l : List Int), sumL 0 (y :: l) = sumL 0 l + y := fun y l => by simp only [sumL]; exact sumL_add l 0 y
    simp only [List.map_cons, e, ih]; omega
theorem partL_sum {ps : List Prize} : ∀ {last : Int}, 0 ≤ last → prOK last ps = true → sumL 0 (partL ps) = sumA ps := by
  induction ps with
  | nil =>
    intro last _ _
    have : partL [] = List.replicate 24 0 := by decide
    rw [this, sumL_rep0]; rfl
  | cons q l ih =>
    intro last h0 h
    have hm := prOK_mem h q (by simp)
    rw [prOK] at h
    split at h
    · cases h
    · have e1 : partL (q :: l) = (List.range 24).map fun i : Nat => onePart q i + part l ((i + 1 : Nat) : Int) := by
        unfold partL
        refine List.map_congr_left fun i _ => ?_
        show part (q :: l) ((i : Int) + 1) = _
        rw [part, onePart]
        have hc : ((i + 1 : Nat) : Int) = (i : Int) + 1 := by omega
        rw [hc]
        split
        · rename_i hr
          rw [part_low h hr.2]; omega
        · omega
      have e2 : sumA (q :: l) = sumA l + q.a := by unfold sumA; simp only [List.map_cons, sumL]; exact sumL_add _ 0 q.a
      rw [e1, map_add, onePart_list (by omega) (by omega) (by omega), sumL_append, sumL_append, sumL_rep0, sumL_rep0, eqL_sum (by omega) (by omega), e2, ← ih (by omega) h]
      unfold partL
      have : (fun i : Nat => part l ((i + 1 : Nat) : Int)) = fun i : Nat => part l ((i : Int) + 1) := by funext i; congr 1
      rw [this]; omega
theorem sumL_take_le {l : List Int} (h : ∀ x ∈ l, 0 ≤ x) (m : Nat) : sumL 0 (l.take m) ≤ sumL 0 l ∧ 0 ≤ sumL 0 (l.drop m) := by
  have e := sumL_append (l.take m) (l.drop m)
  rw [List.take_append_drop] at e
  have h1 := sumL_nonneg (l := l.drop m) fun x hx => h x (List.mem_of_mem_drop hx)
  omega
theorem partL_nonneg {ps : List Prize} {last : Int} (h : prOK last ps = true) : ∀ x ∈ partL ps, 0 ≤ x := by
  intro x hx
  obtain ⟨i, _, rfl⟩ := List.mem_map.1 hx
  exact (part_bounds42 h _).1
theorem part_total {ps : List Prize} (h : prOK 0 ps = true) (hs : sumA ps ≤ 1125899906842624) (i m : Nat) : sumL 0 (((partL ps).drop i).take m) ≤ 1125899906842624 := by
  have hn := partL_nonneg h
  have h1 := (sumL_take_le (l := (partL ps).drop i) (fun x hx => hn x (List.mem_of_mem_drop hx)) m).1
  have h2 := sumL_append ((partL ps).take i) ((partL ps).drop i)
  rw [List.take_append_drop] at h2
  have h3 := sumL_nonneg (l := (partL ps).take i) fun x hx => hn x (List.mem_of_mem_take hx)
  have h4 := partL_sum (Int.le_refl 0) h
  omega
end Go.Proofs.YtoiiblkncbnlaaaGreat
namespace Go.Proofs.YtoiiblkncbnlaaaGreat
end Go.Proofs.YtoiiblkncbnlaaaGreat
namespace Go.Proofs.YtoiiblkncbnlaaaGreat
theorem share_end {ps : List Place} {ns : List Int} {j : Nat} (h : ps.length ≤ j) : share (ps.drop j) (ns.drop j) = [] := by rw [List.drop_eq_nil_of_le h]; rfl
end Go.Proofs.YtoiiblkncbnlaaaGreat
namespace Go.Proofs.YtoiiblkncbnlaaaGreat
end Go.Proofs.YtoiiblkncbnlaaaGreat

/-
  Chapter 42: the league of a competition. Conditions: those of each theorem.
-/
set_option linter.unusedVariables false
set_option linter.unusedSimpArgs false
namespace Go.Proofs.YtoiiblkncbnlaaaGreat
open Go.DL
def tab0 : Tab := ⟨0, 0, []⟩
def sch0 : Sch := ⟨0, [], 0, 0, 0, 0⟩
def ofB (ts : List Tab) (ss : List Sch) (c : Int) : Bool := decide (0 ≤ idxT c ts 0 ∧ 0 ≤ idxS c ss 0)
def ofT (ts : List Tab) (ss : List Sch) (c : Int) : Tab := if ofB ts ss c then ts.getD (idxT c ts 0).toNat tab0 else tab0
def ofS (ts : List Tab) (ss : List Sch) (c : Int) : Sch := if ofB ts ss c then ss.getD (idxS c ss 0).toNat sch0 else sch0
theorem ofB_no {ts : List Tab} {ss : List Sch} {c : Int} (h : idxT c ts 0 < 0 ∨ idxS c ss 0 < 0) : ofB ts ss c = false := decide_eq_false (by omega)
theorem ofB_yes {ts : List Tab} {ss : List Sch} {c : Int} (h : 0 ≤ idxT c ts 0) (h2 : 0 ≤ idxS c ss 0) : ofB ts ss c = true := decide_eq_true ⟨h, h2⟩
theorem ofT_no {ts : List Tab} {ss : List Sch} {c : Int} (h : ofB ts ss c = false) : ofT ts ss c = tab0 := by rw [ofT, h]; rfl
theorem ofS_no {ts : List Tab} {ss : List Sch} {c : Int} (h : ofB ts ss c = false) : ofS ts ss c = sch0 := by rw [ofS, h]; rfl
theorem ofT_yes {ts : List Tab} {ss : List Sch} {c : Int} (h : ofB ts ss c = true) {x : Tab} (hx : ts[(idxT c ts 0).toNat]? = some x) : ofT ts ss c = x := by rw [ofT, if_pos h, List.getD, hx]; rfl
theorem ofS_yes {ts : List Tab} {ss : List Sch} {c : Int} (h : ofB ts ss c = true) {x : Sch} (hx : ss[(idxS c ss 0).toNat]? = some x) : ofS ts ss c = x := by rw [ofS, if_pos h, List.getD, hx]; rfl
theorem idxT_range (c : Int) : ∀ (l : List Tab) (k : Nat), (idxT c l k = -1) ∨ ((k : Int) ≤ idxT c l k ∧ idxT c l k < (k + l.length : Nat))
  | [], k => .inl rfl
  | x :: l, k => by
    rw [idxT]; split
    · exact .inr ⟨Int.le_refl _, by simp only [List.length_cons]; omega⟩
    · rcases idxT_range c l (k + 1) with h1 | ⟨h1, h2⟩
      · exact .inl h1
      · exact .inr ⟨by omega, by simp only [List.length_cons]; omega⟩
theorem idxS_range (c : Int) : ∀ (l : List Sch) (k : Nat), (idxS c l k = -1) ∨ ((k : Int) ≤ idxS c l k ∧ idxS c l k < (k + l.length : Nat))
  | [], k => .inl rfl
  | x :: l, k => by
    rw [idxS]; split
    · exact .inr ⟨Int.le_refl _, by simp only [List.length_cons]; omega⟩
    · rcases idxS_range c l (k + 1) with h1 | ⟨h1, h2⟩
      · exact .inl h1
      · exact .inr ⟨by omega, by simp only [List.length_cons]; omega⟩
theorem idxT_here {c : Int} {l : List Tab} {i : Nat} {x : Tab} (hx : l[i]? = some x) (h : x.c = c) : idxT c (l.drop i) i = i := by rw [drop_cons hx, idxT, if_pos h]
theorem idxS_here {c : Int} {l : List Sch} {i : Nat} {x : Sch} (hx : l[i]? = some x) (h : x.c = c) : idxS c (l.drop i) i = i := by rw [drop_cons hx, idxS, if_pos h]
theorem idxT_skip {c : Int} {l : List Tab} {i : Nat} {x : Tab} (hx : l[i]? = some x) (h : ¬ x.c = c) : idxT c (l.drop i) i = idxT c (l.drop (i + 1)) (i + 1) := by rw [drop_cons hx, idxT, if_neg h]
theorem idxS_skip {c : Int} {l : List Sch} {i : Nat} {x : Sch} (hx : l[i]? = some x) (h : ¬ x.c = c) : idxS c (l.drop i) i = idxS c (l.drop (i + 1)) (i + 1) := by rw [drop_cons hx, idxS, if_neg h]
theorem idxS_end {c : Int} {l : List Sch} {i : Nat} (h : l.length ≤ i) : idxS c (l.drop i) i = -1 := by rw [List.drop_eq_nil_of_le h]; rfl
theorem idxT_end {c : Int} {l : List Tab} {i : Nat} (h : l.length ≤ i) : idxT c (l.drop i) i = -1 := by rw [List.drop_eq_nil_of_le h]; rfl
end Go.Proofs.YtoiiblkncbnlaaaGreat

/-
  Chapter 42: the clubs of the next season, plainly. Conditions: those of each theorem.
-/
set_option linter.unusedVariables false
set_option linter.unusedSimpArgs false
namespace Go.Proofs.YtoiiblkncbnlaaaGreat
open Go.DL
/-- The error of a neighbouring league. -/
def sideE (ts : List Tab) (ss : List Sch) (t : Tab) (n c b : Int) : Int :=
  if n = -1 then 0 else if ofB ts ss n = false ∨ (ofT ts ss n).s ≠ t.s ∨ b ≠ c then 420 else movE (ofT ts ss n) (ofS ts ss n)
def aboveE (ts : List Tab) (ss : List Sch) (c : Int) : Int := sideE ts ss (ofT ts ss c) (ofS ts ss c).ab c (ofS ts ss (ofS ts ss c).ab).be
def belowE (ts : List Tab) (ss : List Sch) (c : Int) : Int := sideE ts ss (ofT ts ss c) (ofS ts ss c).be c (ofS ts ss (ofS ts ss c).be).ab
def aboveL (ts : List Tab) (ss : List Sch) (n : Int) : List Int := if n = -1 then [] else downM (ofT ts ss n) (ofS ts ss n)
def belowL (ts : List Tab) (ss : List Sch) (n : Int) : List Int := if n = -1 then [] else upM (ofT ts ss n) (ofS ts ss n)
def stays (t : Tab) (s : Sch) (x : Int) : Bool := !(upM t s).contains x && !(downM t s).contains x
def restL (t : Tab) (s : Sch) : List Int := (t.l.map clubOf).filter (stays t s)
def comeL (ts : List Tab) (ss : List Sch) (c : Int) : List Int := aboveL ts ss (ofS ts ss c).ab ++ belowL ts ss (ofS ts ss c).be ++ restL (ofT ts ss c) (ofS ts ss c)
def preE (ts : List Tab) (ss : List Sch) (c : Int) : Int :=
  if ofB ts ss c = false then 420 else if movE (ofT ts ss c) (ofS ts ss c) ≠ 0 then movE (ofT ts ss c) (ofS ts ss c) else if aboveE ts ss c ≠ 0 then aboveE ts ss c else belowE ts ss c
def nextE (ts : List Tab) (ss : List Sch) (c : Int) : Int :=
  if preE ts ss c ≠ 0 then preE ts ss c else if (comeL ts ss c).Nodup ∧ 2 ≤ (comeL ts ss c).length ∧ (comeL ts ss c).length ≤ 24 then 0 else 190
def nextL (ts : List Tab) (ss : List Sch) (c : Int) : List Int := if nextE ts ss c ≠ 0 then [] else srtI (comeL ts ss c)
theorem upM_length (t : Tab) (s : Sch) : (upM t s).length ≤ t.l.length := by
  unfold upM; split
  · simp
  · rw [clubsL, srtI_length, List.length_map, List.length_take]; omega
theorem downM_length (t : Tab) (s : Sch) : (downM t s).length ≤ t.l.length := by
  unfold downM; split
  · simp
  · rw [clubsL, srtI_length, List.length_map, List.length_drop]; omega
end Go.Proofs.YtoiiblkncbnlaaaGreat
namespace Go.Proofs.YtoiiblkncbnlaaaGreat
open Go.DL
section
variable {ts : List Tab} {ss : List Sch} {c n b : Int} {t : Tab}
theorem sideE_skip (h : n = -1) : sideE ts ss t n c b = 0 := by rw [sideE, if_pos h]
theorem sideE_420 (h : n ≠ -1) (h2 : ofB ts ss n = false ∨ (ofT ts ss n).s ≠ t.s ∨ b ≠ c) : sideE ts ss t n c b = 420 := by rw [sideE, if_neg h, if_pos h2]
theorem sideE_ok (h : n ≠ -1) (h1 : ofB ts ss n = true) (h2 : (ofT ts ss n).s = t.s) (h3 : b = c) : sideE ts ss t n c b = movE (ofT ts ss n) (ofS ts ss n) := by
  rw [sideE, if_neg h, if_neg]
  rintro (h4 | h4 | h4)
  · rw [h1] at h4; cases h4
  · exact h4 h2
  · exact h4 h3
theorem preE_1 (h : ofB ts ss c = false) : preE ts ss c = 420 := by rw [preE, if_pos h]
theorem preE_2 (h : ofB ts ss c = true) (h2 : movE (ofT ts ss c) (ofS ts ss c) ≠ 0) : preE ts ss c = movE (ofT ts ss c) (ofS ts ss c) := by rw [preE, if_neg (by rw [h]; simp), if_pos h2]
theorem preE_3 (h : ofB ts ss c = true) (h2 : movE (ofT ts ss c) (ofS ts ss c) = 0) (h3 : aboveE ts ss c ≠ 0) : preE ts ss c = aboveE ts ss c := by rw [preE, if_neg (by rw [h]; simp), if_neg (by omega), if_pos h3]
theorem preE_4 (h : ofB ts ss c = true) (h2 : movE (ofT ts ss c) (ofS ts ss c) = 0) (h3 : aboveE ts ss c = 0) : preE ts ss c = belowE ts ss c := by rw [preE, if_neg (by rw [h]; simp), if_neg (by omega), if_neg (by omega)]
theorem nextE_pre {e : Int} (h : preE ts ss c = e) (h0 : e ≠ 0) : nextE ts ss c = e := by rw [nextE, if_pos (by omega), h]
theorem nextE_190 (h : preE ts ss c = 0) (h2 : ¬ ((comeL ts ss c).Nodup ∧ 2 ≤ (comeL ts ss c).length ∧ (comeL ts ss c).length ≤ 24)) : nextE ts ss c = 190 := by rw [nextE, if_neg (by omega), if_neg h2]
theorem nextE_0 (h : preE ts ss c = 0) (h2 : (comeL ts ss c).Nodup ∧ 2 ≤ (comeL ts ss c).length ∧ (comeL ts ss c).length ≤ 24) : nextE ts ss c = 0 := by rw [nextE, if_neg (by omega), if_pos h2]
theorem nextL_nil {e : Int} (h : nextE ts ss c = e) (h0 : e ≠ 0) : nextL ts ss c = [] := by rw [nextL, if_pos (by omega)]
theorem nextL_ok (h : nextE ts ss c = 0) : nextL ts ss c = srtI (comeL ts ss c) := by rw [nextL, if_neg (by omega)]
end
end Go.Proofs.YtoiiblkncbnlaaaGreat
namespace Go.Proofs.YtoiiblkncbnlaaaGreat
open Go.DL
section
variable {ts : List Tab} {ss : List Sch} {c : Int}
theorem err_1 (h : ofB ts ss c = false) : nextE ts ss c = 420 := nextE_pre (preE_1 h) (by omega)
theorem err_2 (h : ofB ts ss c = true) (h2 : movE (ofT ts ss c) (ofS ts ss c) ≠ 0) : nextE ts ss c = movE (ofT ts ss c) (ofS ts ss c) := nextE_pre (preE_2 h h2) h2
theorem err_3 (h : ofB ts ss c = true) (h2 : movE (ofT ts ss c) (ofS ts ss c) = 0) (hn : (ofS ts ss c).ab ≠ -1)
    (hd : ofB ts ss (ofS ts ss c).ab = false ∨ (ofT ts ss (ofS ts ss c).ab).s ≠ (ofT ts ss c).s ∨ (ofS ts ss (ofS ts ss c).ab).be ≠ c) : nextE ts ss c = 420 := by
  have e : aboveE ts ss c = 420 := sideE_420 hn hd
  exact nextE_pre ((preE_3 h h2 (by omega)).trans e) (by omega)
theorem err_4 (h : ofB ts ss c = true) (h2 : movE (ofT ts ss c) (ofS ts ss c) = 0) (hn : (ofS ts ss c).ab ≠ -1) (h3 : ofB ts ss (ofS ts ss c).ab = true) (h4 : (ofT ts ss (ofS ts ss c).ab).s = (ofT ts ss c).s) (h5 : (ofS ts ss (ofS ts ss c).ab).be = c)
    (hm : movE (ofT ts ss (ofS ts ss c).ab) (ofS ts ss (ofS ts ss c).ab) ≠ 0) : nextE ts ss c = movE (ofT ts ss (ofS ts ss c).ab) (ofS ts ss (ofS ts ss c).ab) := by
  have e : aboveE ts ss c = _ := sideE_ok hn h3 h4 h5
  exact nextE_pre ((preE_3 h h2 (by omega)).trans e) hm
theorem err_5 (h : ofB ts ss c = true) (h2 : movE (ofT ts ss c) (ofS ts ss c) = 0) (ha : aboveE ts ss c = 0) (hn : (ofS ts ss c).be ≠ -1)
    (hd : ofB ts ss (ofS ts ss c).be = false ∨ (ofT ts ss (ofS ts ss c).be).s ≠ (ofT ts ss c).s ∨ (ofS ts ss (ofS ts ss c).be).ab ≠ c) : nextE ts ss c = 420 := by
  have e : belowE ts ss c = 420 := sideE_420 hn hd
  exact nextE_pre ((preE_4 h h2 ha).trans e) (by omega)
theorem err_6 (h : ofB ts ss c = true) (h2 : movE (ofT ts ss c) (ofS ts ss c) = 0) (ha : aboveE ts ss c = 0) (hn : (ofS ts ss c).be ≠ -1) (h3 : ofB ts ss (ofS ts ss c).be = true) (h4 : (ofT ts ss (ofS ts ss c).be).s = (ofT ts ss c).s) (h5 : (ofS ts ss (ofS ts ss c).be).ab = c)
    (hm : movE (ofT ts ss (ofS ts ss c).be) (ofS ts ss (ofS ts ss c).be) ≠ 0) : nextE ts ss c = movE (ofT ts ss (ofS ts ss c).be) (ofS ts ss (ofS ts ss c).be) := by
  have e : belowE ts ss c = _ := sideE_ok hn h3 h4 h5
  exact nextE_pre ((preE_4 h h2 ha).trans e) hm
theorem ofT_len (h : ∀ t ∈ ts, t.l.length ≤ 30) (n : Int) : (ofT ts ss n).l.length ≤ 30 := by
  unfold ofT; split
  · rw [List.getD]
    cases hg : ts[(idxT n ts 0).toNat]? with
    | none => simp [tab0]
    | some x => exact h x (List.mem_of_getElem? hg)
  · simp [tab0]
theorem ofS_len (h : ∀ s ∈ ss, s.p.length ≤ 30) (n : Int) : (ofS ts ss n).p.length ≤ 30 := by
  unfold ofS; split
  · rw [List.getD]
    cases hg : ss[(idxS n ss 0).toNat]? with
    | none => simp [sch0]
    | some x => exact h x (List.mem_of_getElem? hg)
  · simp [sch0]
end
end Go.Proofs.YtoiiblkncbnlaaaGreat

/-
  Chapter 42: small enough. Conditions: those of each theorem.
-/
set_option linter.unusedVariables false
set_option linter.unusedSimpArgs false
namespace Go.Proofs.YtoiiblkncbnlaaaGreat
open Go.DL
def Few (ts : List Tab) (ss : List Sch) : Prop := ts.length ≤ 5 ∧ ss.length ≤ 5 ∧ (∀ t ∈ ts, t.l.length ≤ 30) ∧ (∀ s ∈ ss, s.p.length ≤ 30)
instance (ts : List Tab) (ss : List Sch) : Decidable (Few ts ss) := by unfold Few; infer_instance
theorem all_snoc {α : Type} {l : List α} {p : α → Prop} {k : Nat} {x : α} (h : ∀ y ∈ l.take k, p y) (hx : l[k]? = some x) (hp : p x) : ∀ y ∈ l.take (k + 1), p y := by
  rw [take_snoc hx]
  intro y hy
  rcases List.mem_append.1 hy with hy | hy
  · exact h y hy
  · simp at hy; subst hy; exact hp
end Go.Proofs.YtoiiblkncbnlaaaGreat

/-
  Chapter 42: tables of tied clubs. Conditions: those of each theorem.
-/
set_option linter.unusedVariables false
set_option linter.unusedSimpArgs false
namespace Go.Proofs.YtoiiblkncbnlaaaGreat
open Go.DL
def tied (x : Int) : Place := ⟨1, 0, [], ⟨x, 0, 0, 0, 0, 0, 0, 0, 0, 0, 0⟩⟩
def levelT (c : Int) (cs : List Int) : Tab := ⟨0, c, cs.map tied⟩
theorem level_step {cs : List Int} {o : List Place} {k : Nat} {x : Int} (h : o = (cs.take k).map tied) (hx : cs[k]? = some x) : o ++ [(⟨1, 0, [], ⟨x, 0, 0, 0, 0, 0, 0, 0, 0, 0, 0⟩⟩ : Place)] = (cs.take (k + 1)).map tied := by
  rw [take_snoc hx, List.map_append, h]; rfl
end Go.Proofs.YtoiiblkncbnlaaaGreat

/-
  Chapter 42: equal parts, and what each rank is paid. Conditions: those of each theorem.
-/
set_option linter.unusedVariables false
set_option linter.unusedSimpArgs false
namespace Go.Proofs.YtoiiblkncbnlaaaGreat
open Go.DL
set_option maxHeartbeats 4000000
theorem splitOK_ones {a : Int} {n : Nat} (ha : 0 ≤ a) (ha2 : a ≤ 1125899906842624) (h1 : 1 ≤ n) (h2 : n ≤ 256) : splitOK a (onesL n) :=
  ⟨ha, ha2, fun x hx => by have := List.eq_of_mem_replicate hx; omega, by rw [onesL_length]; exact h2, by rw [sumL_ones]; omega⟩
theorem ones_eq {n : Int} (h0 : 0 ≤ n) (h1 : n ≤ 1000) : g_ref42_ones n = some (onesL n.toNat) := by
  refine WP.eq ?_
  unfold g_ref42_ones
  refine WP.loop (fun v => (v.1 : Int) ≤ n ∧ v.2 = onesL v.1) (fun v => n.toNat - v.1) ?_ ⟨h0, rfl⟩
  rintro ⟨k, l⟩ ⟨hk, hv⟩
  dsimp only at hk hv ⊢
  subst hv
  simp only [g_ref42_ones_l2]
  refine WP.iteD (fun hlt => ?_) (fun hlt => ?_)
  · refine WP.ck (by simp only [onesL_length, List.length_cons, List.length_nil]; omega) ?_
    (repeat' (first | with_reducible (first | refine WP.iteT ?_ | refine WP.iteF ?_ | refine WP.iteNb ?_ | refine WP.iteD (fun _ => ?_) (fun _ => ?_) | refine WP.iteE (fun _ => ?_) (fun _ => ?_) | refine WP.iteN (fun _ => ?_) (fun _ => ?_) | refine WP.iteB (fun _ => ?_) (fun _ => ?_)) | (with_reducible refine WP.ckI ?_ ?_; · omega) | (with_reducible refine WP.gn ?_ (fun _ _ => ?_); · omega) | (with_reducible refine WP.gt ?_ (fun _ _ => ?_); · omega) | with_reducible (first | refine WP.up ?_ | refine WP.letO ?_ | refine WP.ret ?_)))
    exact ⟨⟨by dsimp only; omega, (onesL_succ k).symm⟩, by dsimp only; omega⟩
  · unfold g_ref42_ones_j1
    (repeat' (first | with_reducible (first | refine WP.iteT ?_ | refine WP.iteF ?_ | refine WP.iteNb ?_ | refine WP.iteD (fun _ => ?_) (fun _ => ?_) | refine WP.iteE (fun _ => ?_) (fun _ => ?_) | refine WP.iteN (fun _ => ?_) (fun _ => ?_) | refine WP.iteB (fun _ => ?_) (fun _ => ?_)) | (with_reducible refine WP.ckI ?_ ?_; · omega) | (with_reducible refine WP.gn ?_ (fun _ _ => ?_); · omega) | (with_reducible refine WP.gt ?_ (fun _ _ => ?_); · omega) | with_reducible (first | refine WP.up ?_ | refine WP.letO ?_ | refine WP.ret ?_)))
    show onesL k = onesL n.toNat
    congr 1; omega
theorem rpart_eq {s : Sch} {r : Int} (hp : prOK 0 s.p = true) (hl : s.p.length ≤ 1000) (hr : 0 ≤ r) (hr2 : r ≤ 1000) : g_ref42_Part s r = some (part s.p r) := by
  refine WP.eq ?_
  unfold g_ref42_Part
  refine WP.loop (fun k => k ≤ s.p.length ∧ part (s.p.drop k) r = part s.p r) (fun k => s.p.length - k) ?_ ⟨by omega, rfl⟩
  rintro k ⟨hk, iv⟩
  simp only [g_ref42_Part_l2]
  refine WP.iteD (fun hlt => ?_) (fun hlt => ?_)
  · obtain ⟨x, hx⟩ : ∃ x, s.p[k]? = some x := ⟨_, List.getElem?_eq_getElem (by omega)⟩
    rw [gn_some hx]
    obtain ⟨p1, p2, p3, p4, p5⟩ := prOK_mem hp x (List.mem_of_getElem? hx)
    have j3 : ∀ b, (b = true ↔ x.f ≤ r ∧ r ≤ x.t) → WP (g_ref42_Part_j3 x r k s b) (Rnd (fun k => k ≤ s.p.length ∧ part (s.p.drop k) r = part s.p r) (fun k => s.p.length - k) (s.p.length - k) fun z => z = part s.p r) := fun b hb => by
      unfold g_ref42_Part_j3
      cases b
      · (repeat' (first | with_reducible (first | refine WP.iteT ?_ | refine WP.iteF ?_ | refine WP.iteNb ?_ | refine WP.iteD (fun _ => ?_) (fun _ => ?_) | refine WP.iteE (fun _ => ?_) (fun _ => ?_) | refine WP.iteN (fun _ => ?_) (fun _ => ?_) | refine WP.iteB (fun _ => ?_) (fun _ => ?_)) | (with_reducible refine WP.ckI ?_ ?_; · omega) | (with_reducible refine WP.gn ?_ (fun _ _ => ?_); · omega) | (with_reducible refine WP.gt ?_ (fun _ _ => ?_); · omega) | with_reducible (first | refine WP.up ?_ | refine WP.letO ?_ | refine WP.ret ?_)))
        refine ⟨⟨by omega, ?_⟩, by dsimp only; omega⟩
        exact part_skip iv hx fun h => by cases hb.2 h
      · have hh := hb.1 rfl
        (first | with_reducible (first | refine WP.iteT ?_ | refine WP.iteF ?_ | refine WP.iteNb ?_ | refine WP.iteD (fun _ => ?_) (fun _ => ?_) | refine WP.iteE (fun _ => ?_) (fun _ => ?_) | refine WP.iteN (fun _ => ?_) (fun _ => ?_) | refine WP.iteB (fun _ => ?_) (fun _ => ?_)) | (with_reducible refine WP.ckI ?_ ?_; · omega) | (with_reducible refine WP.gn ?_ (fun _ _ => ?_); · omega) | (with_reducible refine WP.gt ?_ (fun _ _ => ?_); · omega) | with_reducible (first | refine WP.up ?_ | refine WP.letO ?_ | refine WP.ret ?_)); (first | with_reducible (first | refine WP.iteT ?_ | refine WP.iteF ?_ | refine WP.iteNb ?_ | refine WP.iteD (fun _ => ?_) (fun _ => ?_) | refine WP.iteE (fun _ => ?_) (fun _ => ?_) | refine WP.iteN (fun _ => ?_) (fun _ => ?_) | refine WP.iteB (fun _ => ?_) (fun _ => ?_)) | (with_reducible refine WP.ckI ?_ ?_; · omega) | (with_reducible refine WP.gn ?_ (fun _ _ => ?_); · omega) | (with_reducible refine WP.gt ?_ (fun _ _ => ?_); · omega) | with_reducible (first | refine WP.up ?_ | refine WP.letO ?_ | refine WP.ret ?_)); (first | with_reducible (first | refine WP.iteT ?_ | refine WP.iteF ?_ | refine WP.iteNb ?_ | refine WP.iteD (fun _ => ?_) (fun _ => ?_) | refine WP.iteE (fun _ => ?_) (fun _ => ?_) | refine WP.iteN (fun _ => ?_) (fun _ => ?_) | refine WP.iteB (fun _ => ?_) (fun _ => ?_)) | (with_reducible refine WP.ckI ?_ ?_; · omega) | (with_reducible refine WP.gn ?_ (fun _ _ => ?_); · omega) | (with_reducible refine WP.gt ?_ (fun _ _ => ?_); · omega) | with_reducible (first | refine WP.up ?_ | refine WP.letO ?_ | refine WP.ret ?_))
        refine WP.bd (ones_eq (by omega) (by omega)) ?_
        refine WP.bd (r := (eqL x.a (x.t - x.f + 1).toNat, 0)) ?_ ?_
        · unfold g_ref05_Split
          rw [if_pos (splitOK_ones (by omega) (by omega) (by omega) (by omega))]; rfl
        · have hlen : ((eqL x.a (x.t - x.f + 1).toNat).length : Int) = x.t - x.f + 1 := by rw [eqL_length]; omega
          (first | with_reducible (first | refine WP.iteT ?_ | refine WP.iteF ?_ | refine WP.iteNb ?_ | refine WP.iteD (fun _ => ?_) (fun _ => ?_) | refine WP.iteE (fun _ => ?_) (fun _ => ?_) | refine WP.iteN (fun _ => ?_) (fun _ => ?_) | refine WP.iteB (fun _ => ?_) (fun _ => ?_)) | (with_reducible refine WP.ckI ?_ ?_; · omega) | (with_reducible refine WP.gn ?_ (fun _ _ => ?_); · omega) | (with_reducible refine WP.gt ?_ (fun _ _ => ?_); · omega) | with_reducible (first | refine WP.up ?_ | refine WP.letO ?_ | refine WP.ret ?_))
          refine WP.gt (by dsimp only; omega) fun y hy => ?_
          (repeat' (first | with_reducible (first | refine WP.iteT ?_ | refine WP.iteF ?_ | refine WP.iteNb ?_ | refine WP.iteD (fun _ => ?_) (fun _ => ?_) | refine WP.iteE (fun _ => ?_) (fun _ => ?_) | refine WP.iteN (fun _ => ?_) (fun _ => ?_) | refine WP.iteB (fun _ => ?_) (fun _ => ?_)) | (with_reducible refine WP.ckI ?_ ?_; · omega) | (with_reducible refine WP.gn ?_ (fun _ _ => ?_); · omega) | (with_reducible refine WP.gt ?_ (fun _ _ => ?_); · omega) | with_reducible (first | refine WP.up ?_ | refine WP.letO ?_ | refine WP.ret ?_)))
          exact part_here iv hx hh hy
    (repeat' (first | with_reducible (first | refine WP.iteT ?_ | refine WP.iteF ?_ | refine WP.iteNb ?_ | refine WP.iteD (fun _ => ?_) (fun _ => ?_) | refine WP.iteE (fun _ => ?_) (fun _ => ?_) | refine WP.iteN (fun _ => ?_) (fun _ => ?_) | refine WP.iteB (fun _ => ?_) (fun _ => ?_)) | (with_reducible refine WP.ckI ?_ ?_; · omega) | (with_reducible refine WP.gn ?_ (fun _ _ => ?_); · omega) | (with_reducible refine WP.gt ?_ (fun _ _ => ?_); · omega) | with_reducible (first | refine WP.up ?_ | refine WP.letO ?_ | refine WP.ret ?_)))
    all_goals refine j3 _ ?_
    all_goals try simp only [decide_eq_true_eq, true_iff, Bool.false_eq_true, false_iff]
    all_goals omega
  · unfold g_ref42_Part_j1
    (repeat' (first | with_reducible (first | refine WP.iteT ?_ | refine WP.iteF ?_ | refine WP.iteNb ?_ | refine WP.iteD (fun _ => ?_) (fun _ => ?_) | refine WP.iteE (fun _ => ?_) (fun _ => ?_) | refine WP.iteN (fun _ => ?_) (fun _ => ?_) | refine WP.iteB (fun _ => ?_) (fun _ => ?_)) | (with_reducible refine WP.ckI ?_ ?_; · omega) | (with_reducible refine WP.gn ?_ (fun _ _ => ?_); · omega) | (with_reducible refine WP.gt ?_ (fun _ _ => ?_); · omega) | with_reducible (first | refine WP.up ?_ | refine WP.letO ?_ | refine WP.ret ?_)))
    show (0 : Int) = part s.p r
    rw [← iv, List.drop_eq_nil_of_le (by omega)]; rfl
/-- One more than half of the ones stands; the doubling goes on. -/
theorem repeat_eq {n : Int} (h1 : 1 ≤ n) (h2 : n ≤ 256) : g_slices_Repeat_Lint_int [(1 : Int)] n = some (onesL n.toNat) := by
  refine WP.eq ?_
  obtain ⟨m, rfl⟩ : ∃ m : Nat, n = (m : Int) := ⟨n.toNat, by omega⟩
  unfold g_slices_Repeat_Lint_int
  have hw1 : IntKind.u64.wrap ((([(1 : Int)] : List Int).length : Nat) : Int) = 1 := by decide
  have hw2 : IntKind.u64.wrap (m : Int) = (m : Int) := by
    unfold IntKind.wrap; simp [IntKind.bits]; omega
  refine WP.iteD (fun h => absurd h (by omega)) (fun _ => ?_)
  refine WP.bd (r := (0, (m : Int))) ?_ ?_
  · rw [hw1, hw2]
    unfold g_bits_Mul
    rw [if_pos (by omega)]
    congr 2 <;> omega
  have hrep : ∀ k l, k ≤ m → l = onesL k ++ List.replicate (m - k) 0 → l.length = m := fun k l hk hl => by rw [hl]; simp [onesL]; omega
  have j1 : WP (g_slices_Repeat_Lint_int_j1 (0, (m : Int)) [1] false) (fun x => x = onesL (m : Int).toNat) := by
    unfold g_slices_Repeat_Lint_int_j1
    (first | with_reducible (first | refine WP.iteT ?_ | refine WP.iteF ?_ | refine WP.iteNb ?_ | refine WP.iteD (fun _ => ?_) (fun _ => ?_) | refine WP.iteE (fun _ => ?_) (fun _ => ?_) | refine WP.iteN (fun _ => ?_) (fun _ => ?_) | refine WP.iteB (fun _ => ?_) (fun _ => ?_)) | (with_reducible refine WP.ckI ?_ ?_; · omega) | (with_reducible refine WP.gn ?_ (fun _ _ => ?_); · omega) | (with_reducible refine WP.gt ?_ (fun _ _ => ?_); · omega) | with_reducible (first | refine WP.up ?_ | refine WP.letO ?_ | refine WP.ret ?_)); (first | with_reducible (first | refine WP.iteT ?_ | refine WP.iteF ?_ | refine WP.iteNb ?_ | refine WP.iteD (fun _ => ?_) (fun _ => ?_) | refine WP.iteE (fun _ => ?_) (fun _ => ?_) | refine WP.iteN (fun _ => ?_) (fun _ => ?_) | refine WP.iteB (fun _ => ?_) (fun _ => ?_)) | (with_reducible refine WP.ckI ?_ ?_; · omega) | (with_reducible refine WP.gn ?_ (fun _ _ => ?_); · omega) | (with_reducible refine WP.gt ?_ (fun _ _ => ?_); · omega) | with_reducible (first | refine WP.up ?_ | refine WP.letO ?_ | refine WP.ret ?_))
    refine WP.ck (by dsimp only; omega) ?_
    refine WP.ck (by simp) ?_
    refine WP.letO ?_
    refine WP.loop (fun v => 1 ≤ v.1 ∧ v.1 ≤ m ∧ v.2 = onesL v.1 ++ List.replicate (m - v.1) 0) (fun v => m - v.1) ?_ ?_
    · rintro ⟨k, l⟩ ⟨hk, hk2, hv⟩
      dsimp only at hk hk2 hv ⊢
      have hlen := hrep k l hk2 hv
      simp only [g_slices_Repeat_Lint_int_l3]
      rw [hlen]
      refine WP.iteD (fun hlt => ?_) (fun hlt => ?_)
      · refine WP.sbp (by simp; omega) ?_
        refine WP.sbp (by simp; omega) ?_
        refine WP.ck (by simp; omega) ?_
        refine WP.ck (by simp; omega) ?_
        refine WP.letO ?_
        have e1 : ((some (k : Int)).getD 0).toNat = k := by simp
        have e2 : (((none : Option Int).getD ((m : Nat) : Int)).toNat - k) = m - k := by simp
        have e3 : (((none : Option Int).getD 0).toNat) = 0 := by simp
        have e4 : ((some (k : Int)).getD ((m : Nat) : Int)).toNat - 0 = k := by simp
        simp only [e1, e2, e3, e4]
        have hk3 : k < m := by omega
        obtain ⟨j, hj⟩ : ∃ j, j = Nat.min k (m - k) := ⟨_, rfl⟩
        have hj1 : 1 ≤ j := by rw [hj, show Nat.min k (m - k) = min k (m - k) from rfl]; omega
        have hj2 : j ≤ k := by rw [hj, show Nat.min k (m - k) = min k (m - k) from rfl]; omega
        have hj3 : j ≤ m - k := by rw [hj, show Nat.min k (m - k) = min k (m - k) from rfl]; omega
        have t1 : l.take k = onesL k := by rw [hv, List.take_append_of_le_length (by simp [onesL])]; simp [onesL]
        have t2 : ((l.drop 0).take k).length = k := by rw [List.drop_zero, t1, onesL_length]
        have t3 : l.drop (k + j) = List.replicate (m - (k + j)) 0 := by
          rw [hv, List.drop_append, List.drop_eq_nil_of_le (by simp [onesL]), onesL_length, List.nil_append, List.drop_replicate]
          congr 1; omega
        rw [t2, ← hj, List.drop_zero, t1, t3]
        (repeat' (first | with_reducible (first | refine WP.iteT ?_ | refine WP.iteF ?_ | refine WP.iteNb ?_ | refine WP.iteD (fun _ => ?_) (fun _ => ?_) | refine WP.iteE (fun _ => ?_) (fun _ => ?_) | refine WP.iteN (fun _ => ?_) (fun _ => ?_) | refine WP.iteB (fun _ => ?_) (fun _ => ?_)) | (with_reducible refine WP.ckI ?_ ?_; · omega) | (with_reducible refine WP.gn ?_ (fun _ _ => ?_); · omega) | (with_reducible refine WP.gt ?_ (fun _ _ => ?_); · omega) | with_reducible (first | refine WP.up ?_ | refine WP.letO ?_ | refine WP.ret ?_)))
        refine ⟨⟨by dsimp only; omega, by dsimp only; omega, ?_⟩, by dsimp only; omega⟩
        dsimp only
        congr 1
        unfold onesL
        rw [List.take_replicate, Nat.min_eq_left hj2, List.replicate_append_replicate]
      · unfold g_slices_Repeat_Lint_int_j2
        (repeat' (first | with_reducible (first | refine WP.iteT ?_ | refine WP.iteF ?_ | refine WP.iteNb ?_ | refine WP.iteD (fun _ => ?_) (fun _ => ?_) | refine WP.iteE (fun _ => ?_) (fun _ => ?_) | refine WP.iteN (fun _ => ?_) (fun _ => ?_) | refine WP.iteB (fun _ => ?_) (fun _ => ?_)) | (with_reducible refine WP.ckI ?_ ?_; · omega) | (with_reducible refine WP.gn ?_ (fun _ _ => ?_); · omega) | (with_reducible refine WP.gt ?_ (fun _ _ => ?_); · omega) | with_reducible (first | refine WP.up ?_ | refine WP.letO ?_ | refine WP.ret ?_)))
        show l = _
        rw [hv, show m - k = 0 by omega]
        simp; congr 1; omega
    · have e0 : ((0 : Int), (m : Int)).2.toNat = m := by simp
      have e1 : Nat.min ([(1 : Int)] : List Int).length (List.replicate ((0 : Int), (m : Int)).2.toNat (0 : Int)).length = 1 := by
        rw [e0, List.length_replicate, List.length_singleton]; exact Nat.min_eq_left (by omega)
      rw [e1, e0]
      refine ⟨by omega, by dsimp only; omega, ?_⟩
      simp [onesL]
  (repeat' (first | with_reducible (first | refine WP.iteT ?_ | refine WP.iteF ?_ | refine WP.iteNb ?_ | refine WP.iteD (fun _ => ?_) (fun _ => ?_) | refine WP.iteE (fun _ => ?_) (fun _ => ?_) | refine WP.iteN (fun _ => ?_) (fun _ => ?_) | refine WP.iteB (fun _ => ?_) (fun _ => ?_)) | (with_reducible refine WP.ckI ?_ ?_; · omega) | (with_reducible refine WP.gn ?_ (fun _ _ => ?_); · omega) | (with_reducible refine WP.gt ?_ (fun _ _ => ?_); · omega) | with_reducible (first | refine WP.up ?_ | refine WP.letO ?_ | refine WP.ret ?_)))
  · rename_i h; exact absurd h (by simp)
  · have : decide (((0 : Int), (m : Int)).2 > 9223372036854775807) = false := by simp; omega
    rw [this]; exact j1
theorem equal_eq {a n : Int} (ha : 0 ≤ a) (ha2 : a ≤ 1125899906842624) (h1 : 1 ≤ n) (h2 : n ≤ 256) : g_prizes_equal a n = some (eqL a n.toNat) := by
  refine WP.eq ?_
  unfold g_prizes_equal
  refine WP.bd (repeat_eq h1 h2) ?_
  refine WP.bd (r := (eqL a n.toNat, 0)) ?_ (WP.ret rfl)
  unfold g_money_Split
  rw [if_pos (splitOK_ones ha ha2 (by omega) (by omega))]; rfl
theorem parts_eq {s : Sch} (hp : prOK 0 s.p = true) (hl : s.p.length ≤ 1000) : g_prizes_parts s = some (partL s.p) := by
  refine WP.eq ?_
  unfold g_prizes_parts
  refine WP.ck (by omega) ?_
  refine WP.loop (fun v => v.1 ≤ s.p.length ∧ v.2.length = 25 ∧ v.2 = fillL (s.p.take v.1) (List.replicate 25 0)) (fun v => s.p.length - v.1) ?_ ⟨by simp, by simp, by simp [fillL]⟩
  rintro ⟨k, l⟩ ⟨hk, h25, hv⟩
  dsimp only at hk h25 hv ⊢
  simp only [g_prizes_parts_l2]
  refine WP.iteD (fun hlt => ?_) (fun hlt => ?_)
  · obtain ⟨x, hx⟩ : ∃ x, s.p[k]? = some x := ⟨_, List.getElem?_eq_getElem (by omega)⟩
    rw [gn_some hx]
    obtain ⟨p1, p2, p3, p4, p5⟩ := prOK_mem hp x (List.mem_of_getElem? hx)
    (first | with_reducible (first | refine WP.iteT ?_ | refine WP.iteF ?_ | refine WP.iteNb ?_ | refine WP.iteD (fun _ => ?_) (fun _ => ?_) | refine WP.iteE (fun _ => ?_) (fun _ => ?_) | refine WP.iteN (fun _ => ?_) (fun _ => ?_) | refine WP.iteB (fun _ => ?_) (fun _ => ?_)) | (with_reducible refine WP.ckI ?_ ?_; · omega) | (with_reducible refine WP.gn ?_ (fun _ _ => ?_); · omega) | (with_reducible refine WP.gt ?_ (fun _ _ => ?_); · omega) | with_reducible (first | refine WP.up ?_ | refine WP.letO ?_ | refine WP.ret ?_)); (first | with_reducible (first | refine WP.iteT ?_ | refine WP.iteF ?_ | refine WP.iteNb ?_ | refine WP.iteD (fun _ => ?_) (fun _ => ?_) | refine WP.iteE (fun _ => ?_) (fun _ => ?_) | refine WP.iteN (fun _ => ?_) (fun _ => ?_) | refine WP.iteB (fun _ => ?_) (fun _ => ?_)) | (with_reducible refine WP.ckI ?_ ?_; · omega) | (with_reducible refine WP.gn ?_ (fun _ _ => ?_); · omega) | (with_reducible refine WP.gt ?_ (fun _ _ => ?_); · omega) | with_reducible (first | refine WP.up ?_ | refine WP.letO ?_ | refine WP.ret ?_))
    refine WP.bd (equal_eq (by omega) (by omega) (by omega) (by omega)) ?_
    have hel : (eqL x.a (x.t - x.f + 1).toNat).length = (x.t - x.f + 1).toNat := eqL_length _ _
    refine WP.loop (fun v => v.1 ≤ (x.t - x.f + 1).toNat ∧ v.2 = putAt l x.f.toNat ((eqL x.a (x.t - x.f + 1).toNat).take v.1)) (fun v => (x.t - x.f + 1).toNat - v.1) ?_ ⟨by simp, by simp [putAt_nil]⟩
    rintro ⟨j, l'⟩ ⟨hj, hv'⟩
    dsimp only at hj hv' ⊢
    simp only [g_prizes_parts_l4]
    refine WP.iteD (fun hlt2 => ?_) (fun hlt2 => ?_)
    · obtain ⟨y, hy⟩ : ∃ y, (eqL x.a (x.t - x.f + 1).toNat)[j]? = some y := ⟨_, List.getElem?_eq_getElem (by omega)⟩
      rw [gn_some hy]
      have hjl : ((eqL x.a (x.t - x.f + 1).toNat).take j).length = j := by rw [List.length_take, hel]; omega
      have hl' : l'.length = 25 := by rw [hv', putAt_length (by rw [hjl]; omega)]; exact h25
      (first | with_reducible (first | refine WP.iteT ?_ | refine WP.iteF ?_ | refine WP.iteNb ?_ | refine WP.iteD (fun _ => ?_) (fun _ => ?_) | refine WP.iteE (fun _ => ?_) (fun _ => ?_) | refine WP.iteN (fun _ => ?_) (fun _ => ?_) | refine WP.iteB (fun _ => ?_) (fun _ => ?_)) | (with_reducible refine WP.ckI ?_ ?_; · omega) | (with_reducible refine WP.gn ?_ (fun _ _ => ?_); · omega) | (with_reducible refine WP.gt ?_ (fun _ _ => ?_); · omega) | with_reducible (first | refine WP.up ?_ | refine WP.letO ?_ | refine WP.ret ?_))
      refine WP.gt (by omega) fun z hz => ?_
      (repeat' (first | with_reducible (first | refine WP.iteT ?_ | refine WP.iteF ?_ | refine WP.iteNb ?_ | refine WP.iteD (fun _ => ?_) (fun _ => ?_) | refine WP.iteE (fun _ => ?_) (fun _ => ?_) | refine WP.iteN (fun _ => ?_) (fun _ => ?_) | refine WP.iteB (fun _ => ?_) (fun _ => ?_)) | (with_reducible refine WP.ckI ?_ ?_; · omega) | (with_reducible refine WP.gn ?_ (fun _ _ => ?_); · omega) | (with_reducible refine WP.gt ?_ (fun _ _ => ?_); · omega) | with_reducible (first | refine WP.up ?_ | refine WP.letO ?_ | refine WP.ret ?_)))
      refine ⟨⟨by dsimp only; omega, ?_⟩, by dsimp only; omega⟩
      dsimp only
      rw [hv', show (x.f + (j : Int)).toNat = x.f.toNat + ((eqL x.a (x.t - x.f + 1).toNat).take j).length by rw [hjl]; omega, putAt_snoc (by rw [hjl]; omega), take_snoc hy]
    · unfold g_prizes_parts_j3
      rw [List.take_of_length_le (by omega)] at hv'
      (repeat' (first | with_reducible (first | refine WP.iteT ?_ | refine WP.iteF ?_ | refine WP.iteNb ?_ | refine WP.iteD (fun _ => ?_) (fun _ => ?_) | refine WP.iteE (fun _ => ?_) (fun _ => ?_) | refine WP.iteN (fun _ => ?_) (fun _ => ?_) | refine WP.iteB (fun _ => ?_) (fun _ => ?_)) | (with_reducible refine WP.ckI ?_ ?_; · omega) | (with_reducible refine WP.gn ?_ (fun _ _ => ?_); · omega) | (with_reducible refine WP.gt ?_ (fun _ _ => ?_); · omega) | with_reducible (first | refine WP.up ?_ | refine WP.letO ?_ | refine WP.ret ?_)))
      refine ⟨⟨by dsimp only; omega, ?_, ?_⟩, by dsimp only; omega⟩
      · dsimp only; rw [hv', putAt_length (by rw [hel]; omega)]; exact h25
      · dsimp only; rw [take_snoc hx, hv', hv]; simp [fillL, List.foldl_append]
  · unfold g_prizes_parts_j1
    (repeat' (first | with_reducible (first | refine WP.iteT ?_ | refine WP.iteF ?_ | refine WP.iteNb ?_ | refine WP.iteD (fun _ => ?_) (fun _ => ?_) | refine WP.iteE (fun _ => ?_) (fun _ => ?_) | refine WP.iteN (fun _ => ?_) (fun _ => ?_) | refine WP.iteB (fun _ => ?_) (fun _ => ?_)) | (with_reducible refine WP.ckI ?_ ?_; · omega) | (with_reducible refine WP.gn ?_ (fun _ _ => ?_); · omega) | (with_reducible refine WP.gt ?_ (fun _ _ => ?_); · omega) | with_reducible (first | refine WP.up ?_ | refine WP.letO ?_ | refine WP.ret ?_)))
    refine WP.sb (by simp; omega) ?_
    refine WP.ret ?_
    rw [List.take_of_length_le (by omega)] at hv
    show subList l (some 1) none = partL s.p
    rw [hv, ← fill_partL hp]; rfl
end Go.Proofs.YtoiiblkncbnlaaaGreat

/-
  Chapter 42: the program's prizes. Conditions: those of each theorem.
-/
set_option linter.unusedVariables false
set_option linter.unusedSimpArgs false
namespace Go.Proofs.YtoiiblkncbnlaaaGreat
open Go.DL
set_option maxHeartbeats 4000000
theorem grpGo_flat (l : List Place) : ∀ (g : List Place) (k : Int), g ≠ [] → (grpGo g k l).flatten = g ++ l ∧ ∀ x ∈ grpGo g k l, x ≠ [] := by
  induction l with
  | nil => intro g k h; simp [grpGo, h]
  | cons p l ih =>
    intro g k h
    rw [grpGo]
    split
    · have := ih (g ++ [p]) k (by simp)
      exact ⟨by rw [this.1]; simp, this.2⟩
    · have := ih [p] p.k (by simp)
      refine ⟨by rw [List.flatten_cons, this.1]; simp, fun x hx => ?_⟩
      rcases List.mem_cons.1 hx with rfl | h2
      · exact h
      · exact this.2 x h2
theorem grp_flat (l : List Place) : (grp l).flatten = l ∧ ∀ x ∈ grp l, x ≠ [] := by
  cases l with
  | nil => simp [grp]
  | cons p l => have := grpGo_flat l [p] p.k (by simp); exact ⟨by rw [grp, this.1]; rfl, this.2⟩
theorem share_sub : ∀ (ps : List Place) (ns : List Int), ((share ps ns).map (·.c)).Sublist (ps.map clubOf)
  | [], _ => by simp [share]
  | p :: ps, [] => by simp [share]
  | p :: ps, n :: ns => by
    rw [share]
    split
    · exact (share_sub ps ns).cons_cons _
    · exact (share_sub ps ns).cons _
theorem payG_sub (gs : List (List Place)) : ∀ r : List Int, ((payG r gs).map (·.c)).Sublist (gs.flatten.map clubOf) := by
  induction gs with
  | nil => intro r; simp [payG]
  | cons g gs ih =>
    intro r
    rw [payG, List.map_append, List.flatten_cons, List.map_append]
    exact (share_sub _ _).append (ih _)
theorem payU_sub (t : Tab) (s : Sch) : ((payU t s).map (·.c)).Sublist (t.l.map clubOf) := by
  have := payG_sub (grp t.l) (partL s.p)
  rwa [(grp_flat t.l).1] at this
theorem payU_len (t : Tab) (s : Sch) : (payU t s).length ≤ t.l.length := by
  have := (payU_sub t s).length_le
  simpa using this
theorem plOK_nodup : ∀ (l : List Place) (k : Nat) (q : Place) (seen : List Int), plOK k q seen l = true → (l.map clubOf).Nodup ∧ ∀ x ∈ l.map clubOf, x ∉ seen
  | [], _, _, _, _ => by simp
  | p :: l, k, q, seen, h => by
    rw [plOK] at h
    split at h
    · rename_i hp
      obtain ⟨h1, h2⟩ := plOK_nodup l (k + 1) p _ h
      rw [List.map_cons, List.nodup_cons]
      refine ⟨⟨fun hc => ?_, h1⟩, fun x hx => ?_⟩
      · have := h2 _ hc
        simp [clubOf] at this
      · rcases List.mem_cons.1 hx with rfl | h3
        · exact hp.2.2.2
        · have := h2 _ h3
          simp at this
          exact this.1
    · cases h
theorem chk_nodup {t : Tab} (h : chkT t = 0) : (t.l.map clubOf).Nodup := by
  rcases chkT_cases t with h1 | ⟨_, _, h1⟩
  · omega
  · exact (plOK_nodup _ _ _ _ h1).1
theorem payU_nodup {t : Tab} {s : Sch} (h : chkT t = 0) : ((payU t s).map (·.c)).Nodup := (payU_sub t s).nodup (chk_nodup h)
theorem insP_perm (p : Pay) (l : List Pay) : (insP p l).Perm (p :: l) := by
  induction l with
  | nil => exact List.Perm.refl _
  | cons q l ih =>
    rw [insP]; split
    · exact (ih.cons q).trans (List.Perm.swap p q l)
    · exact List.Perm.refl _
theorem insP_sorted {p : Pay} {l : List Pay} (h : l.Pairwise fun a b => ¬ b.c < a.c) : (insP p l).Pairwise fun a b => ¬ b.c < a.c := by
  induction l with
  | nil => simp [insP]
  | cons q l ih =>
    rw [List.pairwise_cons] at h
    rw [insP]; split
    · rename_i hq
      rw [List.pairwise_cons]
      refine ⟨fun x hx => ?_, ih h.2⟩
      rcases List.mem_cons.1 ((insP_perm p l).mem_iff.1 hx) with rfl | h2
      · omega
      · exact h.1 x h2
    · rename_i hq
      rw [List.pairwise_cons]
      refine ⟨fun x hx => ?_, List.pairwise_cons.2 h⟩
      rcases List.mem_cons.1 hx with rfl | h2
      · exact hq
      · have := h.1 x h2; omega
theorem insF_sorted (l : List Pay) : ∀ o : List Pay, (o.Pairwise fun a b => ¬ b.c < a.c) → (insF o l).Perm (o ++ l) ∧ (insF o l).Pairwise fun a b => ¬ b.c < a.c := by
  induction l with
  | nil => intro o h; exact ⟨by simp [insF], h⟩
  | cons p l ih =>
    intro o h
    have := ih (insP p o) (insP_sorted h)
    refine ⟨?_, this.2⟩
    refine this.1.trans ?_
    exact ((insP_perm p o).append_right l).trans (List.perm_middle.symm)
theorem insAll_eq {l : List Pay} (h : (l.map (·.c)).Nodup) : insAll l = srtP l := by
  have := insF_sorted l [] List.Pairwise.nil
  exact sortP_uniq ⟨by have h1 := this.1; rw [List.nil_append] at h1; exact h1, this.2⟩ h
end Go.Proofs.YtoiiblkncbnlaaaGreat

/-
  Chapter 42: what the program's prizes compute. Conditions: those of each theorem.
-/
set_option linter.unusedVariables false
set_option linter.unusedSimpArgs false
namespace Go.Proofs.YtoiiblkncbnlaaaGreat
open Go.DL
set_option maxHeartbeats 4000000
theorem len0_eq : g_math_bits_Len 0 = some 0 := by
  refine WP.eq ?_
  unfold g_math_bits_Len
  refine WP.bd (r := 0) ?_ (WP.ret rfl)
  refine WP.eq ?_
  unfold g_math_bits_Len64 g_math_bits_Len64_j1 g_math_bits_Len64_j2 g_math_bits_Len64_j3
  refine WP.iteD (fun h => absurd h (by omega)) (fun _ => ?_)
  refine WP.iteD (fun h => absurd h (by omega)) (fun _ => ?_)
  refine WP.iteD (fun h => absurd h (by omega)) (fun _ => ?_)
  rw [gt_some (x := 0) (by rfl) (by decide)]
  refine WP.ckI (by decide) ?_
  refine WP.ckI (by decide) (WP.ret ?_)
  decide
theorem srtP_nil : srtP [] = [] := by simp [srtP]
theorem prizes_j1_eq {l : List Pay} (hn : (l.map (·.c)).Nodup) (hl : l.length ≤ 1000) : g_prizes_Prizes_j1 l = some (srtP l, 0) := by
  unfold g_prizes_Prizes_j1
  by_cases h : l = []
  · rw [if_pos h, len0_eq, bd_some]
    have h5 : (g_prizes_Prizes_j5) = some (.inr ([], 0)) := rfl
    have h6 : loopO g_prizes_Prizes_l6 () = some (.inr ([], 0)) := loopO_inr (by rw [g_prizes_Prizes_l6, h5]; rfl)
    rw [loopO_inr (r := ([], 0)) (by rw [g_prizes_Prizes_l4]; exact h6), h, srtP_nil]
  · rw [if_neg h, ck_pos hn, ck_pos (by omega)]; rfl
section
variable {t : Tab} {s : Sch} {gs : List (List Place)} {U : List Pay}
theorem prizes_l11 {x : List Place} {ns rest : List Int} {k : Nat} {l : List Pay} {K : ((List Int) × Nat × (List Pay)) ⊕ ((List Pay) × Int) → Prop} (hx : ns.length = x.length) (hl : (l ++ share x ns).length ≤ 1000) (hk : k ≤ 1000) (hx2 : x.length ≤ 1000)
    (h : K (.inl (rest, k + 1, l ++ share x ns))) : WP (loopO (g_prizes_Prizes_l11 ns x rest gs k) (0, l)) K := by
  refine WP.loop (fun v => v.1 ≤ x.length ∧ v.2 ++ share (x.drop v.1) (ns.drop v.1) = l ++ share x ns) (fun v => x.length - v.1) ?_ ⟨by simp, by simp⟩
  rintro ⟨j, o⟩ ⟨hj, iv⟩
  dsimp only at hj iv ⊢
  simp only [g_prizes_Prizes_l11]
  refine WP.iteD (fun hlt => ?_) (fun hlt => ?_)
  · obtain ⟨n, hn⟩ : ∃ n, ns[j]? = some n := ⟨_, List.getElem?_eq_getElem (by omega)⟩
    obtain ⟨y, hy⟩ : ∃ y, x[j]? = some y := ⟨_, List.getElem?_eq_getElem (by omega)⟩
    rw [gn_some hn, gn_some hy]
    refine WP.iteD (fun hp => ?_) (fun hp => ?_)
    · rw [share_yes hy hn hp] at iv
      have hlen : o.length + 1 ≤ 1000 := by
        rw [← iv] at hl
        simp only [List.length_append, List.length_cons] at hl; omega
      refine WP.ck (by simp only [List.length_cons, List.length_nil]; omega) ?_
      unfold g_prizes_Prizes_j12
      (repeat' (first | with_reducible (first | refine WP.iteT ?_ | refine WP.iteF ?_ | refine WP.iteNb ?_ | refine WP.iteD (fun _ => ?_) (fun _ => ?_) | refine WP.iteE (fun _ => ?_) (fun _ => ?_) | refine WP.iteN (fun _ => ?_) (fun _ => ?_) | refine WP.iteB (fun _ => ?_) (fun _ => ?_)) | (with_reducible refine WP.ckI ?_ ?_; · omega) | (with_reducible refine WP.gn ?_ (fun _ _ => ?_); · omega) | (with_reducible refine WP.gt ?_ (fun _ _ => ?_); · omega) | with_reducible (first | refine WP.up ?_ | refine WP.letO ?_ | refine WP.ret ?_)))
      exact ⟨⟨by dsimp only; omega, by dsimp only; rw [← iv]; simp⟩, by dsimp only; omega⟩
    · rw [share_no hy hn hp] at iv
      unfold g_prizes_Prizes_j12
      (repeat' (first | with_reducible (first | refine WP.iteT ?_ | refine WP.iteF ?_ | refine WP.iteNb ?_ | refine WP.iteD (fun _ => ?_) (fun _ => ?_) | refine WP.iteE (fun _ => ?_) (fun _ => ?_) | refine WP.iteN (fun _ => ?_) (fun _ => ?_) | refine WP.iteB (fun _ => ?_) (fun _ => ?_)) | (with_reducible refine WP.ckI ?_ ?_; · omega) | (with_reducible refine WP.gn ?_ (fun _ _ => ?_); · omega) | (with_reducible refine WP.gt ?_ (fun _ _ => ?_); · omega) | with_reducible (first | refine WP.up ?_ | refine WP.letO ?_ | refine WP.ret ?_)))
      exact ⟨⟨by dsimp only; omega, iv⟩, by dsimp only; omega⟩
  · rw [share_end (by omega), List.append_nil] at iv
    unfold g_prizes_Prizes_j9
    (repeat' (first | with_reducible (first | refine WP.iteT ?_ | refine WP.iteF ?_ | refine WP.iteNb ?_ | refine WP.iteD (fun _ => ?_) (fun _ => ?_) | refine WP.iteE (fun _ => ?_) (fun _ => ?_) | refine WP.iteN (fun _ => ?_) (fun _ => ?_) | refine WP.iteB (fun _ => ?_) (fun _ => ?_)) | (with_reducible refine WP.ckI ?_ ?_; · omega) | (with_reducible refine WP.gn ?_ (fun _ _ => ?_); · omega) | (with_reducible refine WP.gt ?_ (fun _ _ => ?_); · omega) | with_reducible (first | refine WP.up ?_ | refine WP.letO ?_ | refine WP.ret ?_)))
    rw [iv]; exact h
theorem prizes_sum {x : List Place} {rest : List Int} {k : Nat} {l : List Pay} {K : ((List Int) × Nat × (List Pay)) ⊕ ((List Pay) × Int) → Prop} (hr : ∀ m, 0 ≤ sumL 0 (rest.take m) ∧ sumL 0 (rest.take m) ≤ 1125899906842624) (hx : x.length ≤ rest.length) (hx1 : 1 ≤ x.length) (hx2 : x.length ≤ 256) (hl : (l ++ share x (eqL (sumL 0 (rest.take x.length)) x.length)).length ≤ 1000) (hk : k ≤ 1000)
    (h : K (.inl (rest.drop x.length, k + 1, l ++ share x (eqL (sumL 0 (rest.take x.length)) x.length)))) : WP (loopO (g_prizes_Prizes_l13 (subList rest none (some ((x.length : Nat) : Int))) rest x gs k l) (0, 0)) K := by
  have e1 : subList rest none (some ((x.length : Nat) : Int)) = rest.take x.length := by simp [subList]
  have e2 : subList rest (some ((x.length : Nat) : Int)) none = rest.drop x.length := by simp [subList]
  have el : (rest.take x.length).length = x.length := by simp; omega
  rw [e1]
  refine WP.loop (fun v => v.2 ≤ x.length ∧ v.1 = sumL 0 (rest.take v.2)) (fun v => x.length - v.2) ?_ ⟨by simp, by simp [sumL]⟩
  rintro ⟨n, j⟩ ⟨hj, iv⟩
  dsimp only at hj iv ⊢
  simp only [g_prizes_Prizes_l13]
  refine WP.iteD (fun hlt => ?_) (fun hlt => ?_)
  · obtain ⟨y, hy⟩ : ∃ y, rest[j]? = some y := ⟨_, List.getElem?_eq_getElem (by omega)⟩
    have hy' : (rest.take x.length)[j]? = some y := by rw [List.getElem?_take_of_lt (by omega)]; exact hy
    rw [gn_some hy']
    have e3 : n + y = sumL 0 (rest.take (j + 1)) := by rw [take_snoc hy, sumL_snoc, iv]
    have := hr (j + 1)
    (repeat' (first | with_reducible (first | refine WP.iteT ?_ | refine WP.iteF ?_ | refine WP.iteNb ?_ | refine WP.iteD (fun _ => ?_) (fun _ => ?_) | refine WP.iteE (fun _ => ?_) (fun _ => ?_) | refine WP.iteN (fun _ => ?_) (fun _ => ?_) | refine WP.iteB (fun _ => ?_) (fun _ => ?_)) | (with_reducible refine WP.ckI ?_ ?_; · omega) | (with_reducible refine WP.gn ?_ (fun _ _ => ?_); · omega) | (with_reducible refine WP.gt ?_ (fun _ _ => ?_); · omega) | with_reducible (first | refine WP.up ?_ | refine WP.letO ?_ | refine WP.ret ?_)))
    exact ⟨⟨by dsimp only; omega, e3⟩, by dsimp only; omega⟩
  · have hjx : j = x.length := by omega
    subst hjx
    unfold g_prizes_Prizes_j10
    (first | with_reducible (first | refine WP.iteT ?_ | refine WP.iteF ?_ | refine WP.iteNb ?_ | refine WP.iteD (fun _ => ?_) (fun _ => ?_) | refine WP.iteE (fun _ => ?_) (fun _ => ?_) | refine WP.iteN (fun _ => ?_) (fun _ => ?_) | refine WP.iteB (fun _ => ?_) (fun _ => ?_)) | (with_reducible refine WP.ckI ?_ ?_; · omega) | (with_reducible refine WP.gn ?_ (fun _ _ => ?_); · omega) | (with_reducible refine WP.gt ?_ (fun _ _ => ?_); · omega) | with_reducible (first | refine WP.up ?_ | refine WP.letO ?_ | refine WP.ret ?_))
    refine WP.sb (by simp; omega) ?_
    rw [e2]
    have := hr x.length
    refine WP.bd (equal_eq (n := ((x.length : Nat) : Int)) (a := n) (by omega) (by omega) (by omega) (by omega)) ?_
    rw [iv, show (((x.length : Nat) : Int)).toNat = x.length by omega]
    exact prizes_l11 (eqL_length _ _) hl hk (by omega) h
/-- The groups' payments. -/
theorem prizes_j7 {ps : List Prize} (hp : prOK 0 ps = true) (hs : sumA ps ≤ 1125899906842624) (hg : gs.flatten.length ≤ 24) (hne : ∀ x ∈ gs, x ≠ []) (hn : ((payG (partL ps) gs).map (·.c)).Nodup) :
    g_prizes_Prizes_j7 (partL ps) gs = some (srtP (payG (partL ps) gs), 0) := by
  have hlen : (payG (partL ps) gs).length ≤ 24 := by
    have := (payG_sub gs (partL ps)).length_le
    rw [List.length_map, List.length_map] at this; omega
  have hgl : gs.length ≤ gs.flatten.length := by
    clear hg hn hlen
    induction gs with
    | nil => simp
    | cons g gs ih =>
      have h1 := hne g (by simp)
      have h2 := ih fun x hx => hne x (by simp [hx])
      have h3 : 1 ≤ g.length := by cases g with | nil => exact absurd rfl h1 | cons _ _ => simp
      simp only [List.length_cons, List.flatten_cons, List.length_append]; omega
  refine WP.eq ?_
  unfold g_prizes_Prizes_j7
  refine WP.loop (fun v => ∃ i, v.2.1 ≤ gs.length ∧ v.1 = (partL ps).drop i ∧ i + (gs.drop v.2.1).flatten.length ≤ 24 ∧ v.2.2 ++ payG v.1 (gs.drop v.2.1) = payG (partL ps) gs) (fun v => gs.length - v.2.1) ?_ ⟨0, by simp, by simp, by simpa using hg, by simp⟩
  rintro ⟨rest, k, l⟩ ⟨i, hk, hr, hi, iv⟩
  dsimp only at hk hr hi iv ⊢
  simp only [g_prizes_Prizes_l8]
  have hpl : (partL ps).length = 24 := by simp [partL]
  refine WP.iteD (fun hlt => ?_) (fun hlt => ?_)
  · obtain ⟨x, hx⟩ : ∃ x, gs[k]? = some x := ⟨_, List.getElem?_eq_getElem (by omega)⟩
    rw [gn_some hx]
    have hx1 : 1 ≤ x.length := by
      have := hne x (List.mem_of_getElem? hx)
      cases x with | nil => exact absurd rfl this | cons _ _ => simp
    rw [drop_cons hx, List.flatten_cons, List.length_append] at hi
    rw [drop_cons hx, payG] at iv
    have hrl : rest.length = 24 - i := by rw [hr, List.length_drop, hpl]
    refine WP.sb (by simp; omega) ?_
    refine prizes_sum (fun m => ?_) (by omega) hx1 (by omega) ?_ (by omega) ?_
    · rw [hr]
      exact ⟨sumL_nonneg fun y hy => partL_nonneg hp y (List.mem_of_mem_drop (List.mem_of_mem_take hy)), part_total hp hs i m⟩
    · have h1 := congrArg List.length iv
      simp only [List.length_append] at h1 ⊢
      omega
    · refine ⟨⟨i + x.length, by dsimp only; omega, by dsimp only; rw [hr, List.drop_drop], by dsimp only; omega, ?_⟩, by dsimp only; omega⟩
      dsimp only
      rw [List.append_assoc]; exact iv
  · rw [List.drop_eq_nil_of_le (by omega), payG, List.append_nil] at iv
    (repeat' (first | with_reducible (first | refine WP.iteT ?_ | refine WP.iteF ?_ | refine WP.iteNb ?_ | refine WP.iteD (fun _ => ?_) (fun _ => ?_) | refine WP.iteE (fun _ => ?_) (fun _ => ?_) | refine WP.iteN (fun _ => ?_) (fun _ => ?_) | refine WP.iteB (fun _ => ?_) (fun _ => ?_)) | (with_reducible refine WP.ckI ?_ ?_; · omega) | (with_reducible refine WP.gn ?_ (fun _ _ => ?_); · omega) | (with_reducible refine WP.gt ?_ (fun _ _ => ?_); · omega) | with_reducible (first | refine WP.up ?_ | refine WP.letO ?_ | refine WP.ret ?_)))
    subst iv
    exact WP.of (prizes_j1_eq hn (by omega)) rfl
end
theorem gprizes_eq {t : Tab} {s : Sch} (hl : t.l.length ≤ 1000) (hs : s.p.length ≤ 1000) : g_prizes_Prizes t s = some (if fitS t s = 0 then srtP (payU t s) else [], fitS t s) := by
  refine WP.eq ?_
  unfold g_prizes_Prizes
  refine WP.bd (fits_eq hl hs) ?_
  refine WP.iteN (fun h => ?_) (fun h => ?_)
  · rw [if_neg h]; exact WP.ret rfl
  rw [if_pos h, h]
  obtain ⟨hp, hsum, _⟩ := fit_prizes h
  have h24 := fit_ranges h
  have hn : ((payU t s).map (·.c)).Nodup := payU_nodup (fitS_ok h).1
  have hfl := grp_flat t.l
  have fin : g_prizes_Prizes_j7 (partL s.p) (grp t.l) = some (srtP (payU t s), 0) := prizes_j7 hp hsum (by rw [hfl.1]; omega) hfl.2 hn
  refine WP.bd (parts_eq hp hs) ?_
  refine WP.loop (fun v => match v with
    | .inl _ => True
    | .inr (k, a, b) => ∃ x, 1 ≤ k ∧ k ≤ t.l.length ∧ t.l[k - 1]? = some x ∧ a.length + 1 ≤ k ∧ b.length ≤ k ∧ grp t.l = a ++ grpGo b x.k (t.l.drop k)) (fun v => match v with
    | .inl _ => t.l.length + 1
    | .inr (k, _, _) => t.l.length - k) ?_ trivial
  rintro (_ | ⟨k, a, b⟩) iv
  · simp only [g_prizes_Prizes_l16]
    refine WP.iteD (fun hlt => ?_) (fun hlt => absurd (show (0 : Int) < ((t.l.length : Nat) : Int) by omega) hlt)
    obtain ⟨x, hx⟩ : ∃ x, t.l[0]? = some x := ⟨_, List.getElem?_eq_getElem (by omega)⟩
    rw [gn_some hx]
    refine WP.ret ?_
    refine ⟨⟨x, by omega, by omega, hx, by simp, by simp, ?_⟩, by dsimp only; omega⟩
    rw [List.nil_append]
    have h1 := drop_cons hx
    rw [List.drop_zero] at h1
    rw [h1]; rfl
  · obtain ⟨x, hk1, hk, hx, ha, hb, iv⟩ := iv
    simp only [g_prizes_Prizes_l16]
    refine WP.iteD (fun hlt => ?_) (fun hlt => ?_)
    · obtain ⟨y, hy⟩ : ∃ y, t.l[k]? = some y := ⟨_, List.getElem?_eq_getElem (by omega)⟩
      rw [gn_some hy]
      refine WP.iteD (fun _ => ?_) (fun h => absurd h (by omega))
      refine WP.ckI (by omega) ?_
      rw [gt_some (x := x) (by rw [show (((k : Nat) : Int) - 1).toNat = k - 1 by omega]; exact hx) (by omega)]
      refine WP.bd (r := (x.k == y.k)) rfl ?_
      rw [drop_cons hy, grpGo] at iv
      by_cases he : x.k = y.k
      · rw [if_pos he] at iv
        rw [show (x.k == y.k) = true by simpa using he]
        unfold g_prizes_Prizes_j18
        refine WP.iteT ?_
        refine WP.ckI (by omega) ?_
        refine WP.ck (by omega) ?_
        refine WP.ck (by omega) ?_
        refine WP.ck (by simp only [List.length_cons, List.length_nil]; omega) ?_
        unfold g_prizes_Prizes_j17
        refine WP.ckI (by omega) ?_
        refine WP.ret ?_
        exact ⟨⟨y, by omega, by omega, by simpa using hy, by omega, by simp; omega, by rw [← he]; exact iv⟩, by dsimp only; omega⟩
      · rw [if_neg he] at iv
        rw [show (x.k == y.k) = false by simpa using he]
        unfold g_prizes_Prizes_j18
        refine WP.iteF ?_
        refine WP.ck (by omega) ?_
        unfold g_prizes_Prizes_j17
        refine WP.ckI (by omega) ?_
        refine WP.ret ?_
        exact ⟨⟨y, by omega, by omega, by simpa using hy, by simp; omega, by first | (simp; done) | (simp; omega), by first | exact iv | (rw [List.append_assoc]; exact iv)⟩, by dsimp only; omega⟩
    · rw [List.drop_eq_nil_of_le (by omega), grpGo] at iv
      unfold g_prizes_Prizes_j15
      rw [← iv]
      refine WP.up ?_
      exact WP.of fin rfl
end Go.Proofs.YtoiiblkncbnlaaaGreat

/-
  Chapter 42: what the reference's prizes compute. Conditions: those of each theorem.
-/
set_option linter.unusedVariables false
set_option linter.unusedSimpArgs false
namespace Go.Proofs.YtoiiblkncbnlaaaGreat
open Go.DL
set_option maxHeartbeats 4000000
section
variable {t : Tab} {s : Sch} {i m : Nat} {out : List Pay} {x : Place} {K : ((List Pay) × Int) ⊕ ((List Pay) × Int) → Prop}
end
end Go.Proofs.YtoiiblkncbnlaaaGreat

/-
  Chapter 42: which clubs rise and fall; the table and the scheme of a league. Conditions: those of each theorem.
-/
set_option linter.unusedVariables false
set_option linter.unusedSimpArgs false
namespace Go.Proofs.YtoiiblkncbnlaaaGreat
open Go.DL
set_option maxHeartbeats 4000000
theorem clubs_eq {l : List Place} (hl : l.length ≤ 1000) : g_prizes_clubs l = some (clubsL l) := by
  refine WP.eq ?_
  unfold g_prizes_clubs
  refine WP.loop (fun v => v.1 ≤ l.length ∧ v.2 = (l.take v.1).map clubOf) (fun v => l.length - v.1) ?_ ⟨by simp, by simp⟩
  rintro ⟨k, o⟩ ⟨hk, iv⟩
  dsimp only at hk iv ⊢
  have ho : o.length = k := by rw [iv]; simp; omega
  simp only [g_prizes_clubs_l2]
  refine WP.iteD (fun hlt => ?_) (fun hlt => ?_)
  · obtain ⟨x, hx⟩ : ∃ x, l[k]? = some x := ⟨_, List.getElem?_eq_getElem (by omega)⟩
    rw [gn_some hx]
    refine WP.ck (by simp only [List.length_cons, List.length_nil]; omega) ?_
    (repeat' (first | with_reducible (first | refine WP.iteT ?_ | refine WP.iteF ?_ | refine WP.iteNb ?_ | refine WP.iteD (fun _ => ?_) (fun _ => ?_) | refine WP.iteE (fun _ => ?_) (fun _ => ?_) | refine WP.iteN (fun _ => ?_) (fun _ => ?_) | refine WP.iteB (fun _ => ?_) (fun _ => ?_)) | (with_reducible refine WP.ckI ?_ ?_; · omega) | (with_reducible refine WP.gn ?_ (fun _ _ => ?_); · omega) | (with_reducible refine WP.gt ?_ (fun _ _ => ?_); · omega) | with_reducible (first | refine WP.up ?_ | refine WP.letO ?_ | refine WP.ret ?_)))
    exact ⟨⟨by dsimp only; omega, by dsimp only; rw [take_snoc hx, List.map_append, iv]; rfl⟩, by dsimp only; omega⟩
  · unfold g_prizes_clubs_j1
    (first | with_reducible (first | refine WP.iteT ?_ | refine WP.iteF ?_ | refine WP.iteNb ?_ | refine WP.iteD (fun _ => ?_) (fun _ => ?_) | refine WP.iteE (fun _ => ?_) (fun _ => ?_) | refine WP.iteN (fun _ => ?_) (fun _ => ?_) | refine WP.iteB (fun _ => ?_) (fun _ => ?_)) | (with_reducible refine WP.ckI ?_ ?_; · omega) | (with_reducible refine WP.gn ?_ (fun _ _ => ?_); · omega) | (with_reducible refine WP.gt ?_ (fun _ _ => ?_); · omega) | with_reducible (first | refine WP.up ?_ | refine WP.letO ?_ | refine WP.ret ?_))
    refine WP.ck (by omega) (WP.ret ?_)
    rw [iv, List.take_of_length_le (by omega)]; rfl
theorem moves_eq {t : Tab} {s : Sch} (hl : t.l.length ≤ 1000) (hs : s.p.length ≤ 1000) : g_prizes_Moves t s = some (upM t s, downM t s, movE t s) := by
  refine WP.eq ?_
  unfold g_prizes_Moves
  refine WP.bd (fits_eq hl hs) ?_
  refine WP.iteN (fun h => ?_) (fun h => ?_)
  · have e := movE_bad h
    rw [upM_nil (by rw [e]; exact h), downM_nil (by rw [e]; exact h), e]; exact WP.ret rfl
  have hr := fit_ranges h
  refine WP.ckI (by omega) ?_
  refine WP.iteD (fun h2 => ?_) (fun h2 => ?_)
  · have e := movE_420 h h2
    rw [upM_nil (by omega), downM_nil (by omega), e]; exact WP.ret rfl
  · have e := movE_ok h h2
    rw [upM_ok e, downM_ok e, e]
    refine WP.sb (by simp; omega) ?_
    have e1 : subList t.l none (some s.u) = t.l.take s.u.toNat := by simp [subList]
    rw [e1]
    refine WP.bd (clubs_eq (by simp; omega)) ?_
    refine WP.ckI (by omega) ?_
    refine WP.sb (by simp; omega) ?_
    have e2 : subList t.l (some (((t.l.length : Nat) : Int) - s.d)) none = t.l.drop (t.l.length - s.d.toNat) := by simp [subList]; congr 1; omega
    rw [e2]
    refine WP.bd (clubs_eq (by simp; omega)) ?_
    exact WP.ret rfl
theorem of_eq {ts : List Tab} {ss : List Sch} {c : Int} (h1 : ts.length ≤ 1000) (h2 : ss.length ≤ 1000) : g_prizes_of ts ss c = some (⟨ofT ts ss c, ofS ts ss c⟩, ofB ts ss c) := by
  have hj2 : g_prizes_of_j2 (idxT c ts 0) ts ss (idxS c ss 0) = some (⟨ofT ts ss c, ofS ts ss c⟩, ofB ts ss c) := by
    refine WP.eq ?_
    unfold g_prizes_of_j2
    have no : ofB ts ss c = false → WP (g_prizes_of_j3 ts (idxT c ts 0) ss (idxS c ss 0) true) (fun z => z = (⟨ofT ts ss c, ofS ts ss c⟩, ofB ts ss c)) := fun h => by
      unfold g_prizes_of_j3
      (repeat' (first | with_reducible (first | refine WP.iteT ?_ | refine WP.iteF ?_ | refine WP.iteNb ?_ | refine WP.iteD (fun _ => ?_) (fun _ => ?_) | refine WP.iteE (fun _ => ?_) (fun _ => ?_) | refine WP.iteN (fun _ => ?_) (fun _ => ?_) | refine WP.iteB (fun _ => ?_) (fun _ => ?_)) | (with_reducible refine WP.ckI ?_ ?_; · omega) | (with_reducible refine WP.gn ?_ (fun _ _ => ?_); · omega) | (with_reducible refine WP.gt ?_ (fun _ _ => ?_); · omega) | with_reducible (first | refine WP.up ?_ | refine WP.letO ?_ | refine WP.ret ?_)))
      rw [h, ofT_no h, ofS_no h]; rfl
    refine WP.iteD (fun h => ?_) (fun h => ?_)
    · exact no (ofB_no (.inl h))
    · by_cases h3 : idxS c ss 0 < 0
      · rw [decide_eq_true h3]; exact no (ofB_no (.inr h3))
      · rw [decide_eq_false h3]
        have hb := ofB_yes (ts := ts) (ss := ss) (c := c) (by omega) (by omega)
        have r1 := idxT_range c ts 0
        have r2 := idxS_range c ss 0
        unfold g_prizes_of_j3
        refine WP.iteF ?_
        refine WP.gt (by omega) fun x hx => ?_
        refine WP.gt (by omega) fun y hy => ?_
        refine WP.ret ?_
        rw [hb, ofT_yes hb hx, ofS_yes hb hy]
  have hj1 : g_prizes_of_j1 ss c ts (idxT c ts 0) = some (⟨ofT ts ss c, ofS ts ss c⟩, ofB ts ss c) := by
    refine WP.eq ?_
    unfold g_prizes_of_j1
    refine WP.loop (fun k => k ≤ ss.length ∧ idxS c (ss.drop k) k = idxS c ss 0) (fun k => ss.length - k) ?_ ⟨by omega, rfl⟩
    rintro k ⟨hk, iv⟩
    simp only [g_prizes_of_l5]
    refine WP.iteD (fun hlt => ?_) (fun hlt => ?_)
    · obtain ⟨x, hx⟩ : ∃ x, ss[k]? = some x := ⟨_, List.getElem?_eq_getElem (by omega)⟩
      rw [gn_some hx]
      refine WP.iteE (fun he => ?_) (fun he => ?_)
      · rw [idxS_here hx he] at iv
        refine WP.up ?_
        rw [iv]
        exact WP.of hj2 rfl
      · rw [idxS_skip hx he] at iv
        (repeat' (first | with_reducible (first | refine WP.iteT ?_ | refine WP.iteF ?_ | refine WP.iteNb ?_ | refine WP.iteD (fun _ => ?_) (fun _ => ?_) | refine WP.iteE (fun _ => ?_) (fun _ => ?_) | refine WP.iteN (fun _ => ?_) (fun _ => ?_) | refine WP.iteB (fun _ => ?_) (fun _ => ?_)) | (with_reducible refine WP.ckI ?_ ?_; · omega) | (with_reducible refine WP.gn ?_ (fun _ _ => ?_); · omega) | (with_reducible refine WP.gt ?_ (fun _ _ => ?_); · omega) | with_reducible (first | refine WP.up ?_ | refine WP.letO ?_ | refine WP.ret ?_)))
        exact ⟨⟨by omega, iv⟩, by dsimp only; omega⟩
    · rw [idxS_end (by omega)] at iv
      unfold g_prizes_of_j4
      refine WP.up ?_
      rw [iv]
      exact WP.of hj2 rfl
  refine WP.eq ?_
  unfold g_prizes_of
  refine WP.loop (fun k => k ≤ ts.length ∧ idxT c (ts.drop k) k = idxT c ts 0) (fun k => ts.length - k) ?_ ⟨by omega, rfl⟩
  rintro k ⟨hk, iv⟩
  simp only [g_prizes_of_l7]
  refine WP.iteD (fun hlt => ?_) (fun hlt => ?_)
  · obtain ⟨x, hx⟩ : ∃ x, ts[k]? = some x := ⟨_, List.getElem?_eq_getElem (by omega)⟩
    rw [gn_some hx]
    refine WP.iteE (fun he => ?_) (fun he => ?_)
    · rw [idxT_here hx he] at iv
      refine WP.up ?_
      rw [iv]
      exact WP.of hj1 rfl
    · rw [idxT_skip hx he] at iv
      (repeat' (first | with_reducible (first | refine WP.iteT ?_ | refine WP.iteF ?_ | refine WP.iteNb ?_ | refine WP.iteD (fun _ => ?_) (fun _ => ?_) | refine WP.iteE (fun _ => ?_) (fun _ => ?_) | refine WP.iteN (fun _ => ?_) (fun _ => ?_) | refine WP.iteB (fun _ => ?_) (fun _ => ?_)) | (with_reducible refine WP.ckI ?_ ?_; · omega) | (with_reducible refine WP.gn ?_ (fun _ _ => ?_); · omega) | (with_reducible refine WP.gt ?_ (fun _ _ => ?_); · omega) | with_reducible (first | refine WP.up ?_ | refine WP.letO ?_ | refine WP.ret ?_)))
      exact ⟨⟨by omega, iv⟩, by dsimp only; omega⟩
  · rw [idxT_end (by omega)] at iv
    unfold g_prizes_of_j6
    refine WP.up ?_
    rw [iv]
    exact WP.of hj1 rfl
end Go.Proofs.YtoiiblkncbnlaaaGreat

/-
  Chapter 42: the clubs of the next season as the reference computes them. Conditions: those of each theorem.
-/
set_option linter.unusedVariables false
set_option linter.unusedSimpArgs false
namespace Go.Proofs.YtoiiblkncbnlaaaGreat
open Go.DL
set_option maxHeartbeats 4000000
theorem index_eq {l : List Int} {n : Int} (hl : l.length ≤ 1000) : WP (g_slices_Index_Lint_int l n) (fun r => decide (r ≥ 0) = l.contains n) := by
  unfold g_slices_Index_Lint_int
  refine WP.loop (fun k => k ≤ l.length ∧ (l.drop k).contains n = l.contains n) (fun k => l.length - k) ?_ ⟨by omega, rfl⟩
  rintro k ⟨hk, iv⟩
  simp only [g_slices_Index_Lint_int_l2]
  refine WP.iteD (fun hlt => ?_) (fun hlt => ?_)
  · obtain ⟨x, hx⟩ : ∃ x, l[k]? = some x := ⟨_, List.getElem?_eq_getElem (by omega)⟩
    rw [gn_some hx]
    refine WP.iteE (fun he => ?_) (fun he => ?_)
    · (repeat' (first | with_reducible (first | refine WP.iteT ?_ | refine WP.iteF ?_ | refine WP.iteNb ?_ | refine WP.iteD (fun _ => ?_) (fun _ => ?_) | refine WP.iteE (fun _ => ?_) (fun _ => ?_) | refine WP.iteN (fun _ => ?_) (fun _ => ?_) | refine WP.iteB (fun _ => ?_) (fun _ => ?_)) | (with_reducible refine WP.ckI ?_ ?_; · omega) | (with_reducible refine WP.gn ?_ (fun _ _ => ?_); · omega) | (with_reducible refine WP.gt ?_ (fun _ _ => ?_); · omega) | with_reducible (first | refine WP.up ?_ | refine WP.letO ?_ | refine WP.ret ?_)))
      show decide (((k : Nat) : Int) ≥ 0) = _
      rw [has_here iv hx he.symm]; exact decide_eq_true (by omega)
    · (repeat' (first | with_reducible (first | refine WP.iteT ?_ | refine WP.iteF ?_ | refine WP.iteNb ?_ | refine WP.iteD (fun _ => ?_) (fun _ => ?_) | refine WP.iteE (fun _ => ?_) (fun _ => ?_) | refine WP.iteN (fun _ => ?_) (fun _ => ?_) | refine WP.iteB (fun _ => ?_) (fun _ => ?_)) | (with_reducible refine WP.ckI ?_ ?_; · omega) | (with_reducible refine WP.gn ?_ (fun _ _ => ?_); · omega) | (with_reducible refine WP.gt ?_ (fun _ _ => ?_); · omega) | with_reducible (first | refine WP.up ?_ | refine WP.letO ?_ | refine WP.ret ?_)))
      exact ⟨⟨by omega, has_skip iv hx fun e => he e.symm⟩, by dsimp only; omega⟩
  · unfold g_slices_Index_Lint_int_j1
    (repeat' (first | with_reducible (first | refine WP.iteT ?_ | refine WP.iteF ?_ | refine WP.iteNb ?_ | refine WP.iteD (fun _ => ?_) (fun _ => ?_) | refine WP.iteE (fun _ => ?_) (fun _ => ?_) | refine WP.iteN (fun _ => ?_) (fun _ => ?_) | refine WP.iteB (fun _ => ?_) (fun _ => ?_)) | (with_reducible refine WP.ckI ?_ ?_; · omega) | (with_reducible refine WP.gn ?_ (fun _ _ => ?_); · omega) | (with_reducible refine WP.gt ?_ (fun _ _ => ?_); · omega) | with_reducible (first | refine WP.up ?_ | refine WP.letO ?_ | refine WP.ret ?_)))
    show decide ((-1 : Int) ≥ 0) = _
    rw [has_end iv (by omega)]; rfl
theorem contains_eq {l : List Int} {n : Int} (hl : l.length ≤ 1000) : g_slices_Contains_Lint_int l n = some (l.contains n) := by
  refine WP.eq ?_
  unfold g_slices_Contains_Lint_int
  refine WP.bdW ((index_eq (n := n) hl).mono fun r hr => ?_)
  exact WP.ret hr
theorem comeL_len {ts : List Tab} {ss : List Sch} {c : Int} (h : ∀ t ∈ ts, t.l.length ≤ 30) : (comeL ts ss c).length ≤ 90 := by
  have h1 := ofT_len (ss := ss) h c
  have h2 : (aboveL ts ss (ofS ts ss c).ab).length ≤ 30 := by
    unfold aboveL; split
    · simp
    · have := downM_length (ofT ts ss (ofS ts ss c).ab) (ofS ts ss (ofS ts ss c).ab); have := ofT_len (ss := ss) h (ofS ts ss c).ab; omega
  have h3 : (belowL ts ss (ofS ts ss c).be).length ≤ 30 := by
    unfold belowL; split
    · simp
    · have := upM_length (ofT ts ss (ofS ts ss c).be) (ofS ts ss (ofS ts ss c).be); have := ofT_len (ss := ss) h (ofS ts ss c).be; omega
  have h4 : (restL (ofT ts ss c) (ofS ts ss c)).length ≤ 30 := by
    have := List.length_filter_le (stays (ofT ts ss c) (ofS ts ss c)) ((ofT ts ss c).l.map clubOf)
    unfold restL; simp at this ⊢; omega
  simp only [comeL, List.length_append]; omega
section
variable {ts : List Tab} {ss : List Sch} {c : Int}
end
end Go.Proofs.YtoiiblkncbnlaaaGreat

/-
  Chapter 42: the clubs of the next season as the program computes them. Conditions: those of each theorem.
-/
set_option linter.unusedVariables false
set_option linter.unusedSimpArgs false
namespace Go.Proofs.YtoiiblkncbnlaaaGreat
open Go.DL
set_option maxHeartbeats 4000000
/-! ### sets of numbers -/
def setL (l : List Int) : List Int := l.foldl sput []
theorem setL_snoc (l : List Int) (n : Int) : setL (l ++ [n]) = sput (setL l) n := by simp [setL]
theorem setF_facts (l : List Int) : ∀ o : List Int, o.Pairwise (· < ·) → (l.foldl sput o).Pairwise (· < ·) ∧ (∀ x, x ∈ l.foldl sput o ↔ x ∈ o ∨ x ∈ l) ∧ (l.foldl sput o).length ≤ o.length + l.length ∧ ((l.foldl sput o).length = o.length + l.length ↔ l.Nodup ∧ ∀ x ∈ l, x ∉ o) := by
  induction l with
  | nil => intro o h; exact ⟨h, by simp, by simp, by simp⟩
  | cons a l ih =>
    intro o h
    obtain ⟨h1, h2, h3, h4⟩ := ih (sput o a) (sput_sorted h)
    have h5 := sput_le a o
    refine ⟨h1, fun x => ?_, by simp only [List.foldl_cons, List.length_cons]; omega, ?_⟩
    · simp only [List.foldl_cons]
      rw [h2, mem_sput, List.mem_cons]
      constructor
      · rintro ((rfl | h) | h)
        · exact .inr (.inl rfl)
        · exact .inl h
        · exact .inr (.inr h)
      · rintro (h | rfl | h)
        · exact .inl (.inr h)
        · exact .inl (.inl rfl)
        · exact .inr h
    · simp only [List.foldl_cons, List.length_cons]
      rw [List.nodup_cons]
      by_cases ha : a ∈ o
      · rw [sput_old h ha] at h3 h4
        constructor
        · intro h6; omega
        · rintro ⟨_, h7⟩; exact absurd ha (h7 a (by simp))
      · have hn := sput_new ha
        rw [hn] at h4
        constructor
        · intro h6
          obtain ⟨h7, h8⟩ := h4.1 (by omega)
          refine ⟨⟨fun hc => h8 a hc (mem_sput.2 (.inl rfl)), h7⟩, fun x hx => ?_⟩
          rcases List.mem_cons.1 hx with rfl | hx
          · exact ha
          · exact fun hxo => h8 x hx (mem_sput.2 (.inr hxo))
        · rintro ⟨⟨h6, h7⟩, h8⟩
          have := h4.2 ⟨h7, fun x hx hxo => by
            rcases mem_sput.1 hxo with rfl | h9
            · exact h6 hx
            · exact h8 x (by simp [hx]) h9⟩
          omega
theorem setL_facts (l : List Int) : (setL l).Pairwise (· < ·) ∧ (∀ x, x ∈ setL l ↔ x ∈ l) ∧ (setL l).length ≤ l.length ∧ ((setL l).length = l.length ↔ l.Nodup) := by
  obtain ⟨h1, h2, h3, h4⟩ := setF_facts l [] List.Pairwise.nil
  unfold setL
  exact ⟨h1, by simpa using h2, by simpa using h3, by simpa using h4⟩
theorem srtI_sorted (l : List Int) : (srtI l).Pairwise (· ≤ ·) :=
  (List.pairwise_mergeSort (le := fun x y => decide (x ≤ y)) (fun a b c h1 h2 => by simp at *; omega) (fun a b => by simp; omega) l).imp fun h => by simpa using h
theorem sorted_uniq {l d : List Int} (h1 : l.Pairwise (· ≤ ·)) (h2 : d.Pairwise (· ≤ ·)) (h : l.Perm d) : l = d :=
  h.eq_of_pairwise (fun a b _ _ h1 h2 => by omega) h1 h2
theorem setL_srtI {l : List Int} (h : l.Nodup) : setL l = srtI l := by
  obtain ⟨h1, h2, h3, h4⟩ := setL_facts l
  refine sorted_uniq (h1.imp fun h => by omega) (srtI_sorted l) ?_
  refine List.Perm.trans ?_ (srtI_perm l).symm
  refine (List.perm_ext_iff_of_nodup (h1.imp fun h => by omega) h).2 h2
theorem srtI_congr {l d : List Int} (h : l.Perm d) : srtI l = srtI d :=
  sorted_uniq (srtI_sorted l) (srtI_sorted d) ((srtI_perm l).trans (h.trans (srtI_perm d).symm))
/-! ### the range of clubs -/
theorem plOK_row : ∀ (l : List Place) (k : Nat) (q : Place) (seen : List Int), plOK k q seen l = true → ∀ p ∈ l, rowOK p.r = true
  | [], _, _, _, _ => by simp
  | p :: l, k, q, seen, h => by
    rw [plOK] at h
    split at h
    · rename_i hp
      intro x hx
      rcases List.mem_cons.1 hx with rfl | hx
      · exact hp.2.2.1
      · exact plOK_row l (k + 1) p _ h x hx
    · cases h
theorem chk_range {t : Tab} (h : chkT t = 0) : ∀ x ∈ t.l.map clubOf, 0 ≤ x ∧ x ≤ 191 := by
  rcases chkT_cases t with h1 | ⟨_, _, h1⟩
  · omega
  · intro x hx
    obtain ⟨p, hp, rfl⟩ := List.mem_map.1 hx
    exact rowOK_c (plOK_row _ _ _ _ h1 p hp)
theorem movE_chk {t : Tab} {s : Sch} (h : movE t s = 0) : fitS t s = 0 ∧ chkT t = 0 := by
  have : fitS t s = 0 := by
    by_cases h1 : fitS t s = 0
    · exact h1
    · rw [movE_bad h1] at h; exact absurd h h1
  exact ⟨this, (fitS_ok this).1⟩
theorem upM_sub {t : Tab} {s : Sch} (h : movE t s = 0) : ∀ x ∈ upM t s, x ∈ t.l.map clubOf := by
  intro x hx
  rw [upM_ok h, clubsL] at hx
  have := (srtI_perm _).mem_iff.1 hx
  rw [List.map_take] at this
  exact List.mem_of_mem_take this
theorem downM_sub {t : Tab} {s : Sch} (h : movE t s = 0) : ∀ x ∈ downM t s, x ∈ t.l.map clubOf := by
  intro x hx
  rw [downM_ok h, clubsL] at hx
  have := (srtI_perm _).mem_iff.1 hx
  rw [List.map_drop] at this
  exact List.mem_of_mem_drop this
section
variable {ts : List Tab} {ss : List Sch} {c : Int}
theorem next_j5 {l : List Int} (hpre : preE ts ss c = 0) (hl : l.Perm (comeL ts ss c)) (hlen : l.length ≤ 1000) : WP (g_prizes_Next_j5 l.length (setL l)) (fun z => z = (nextL ts ss c, nextE ts ss c)) := by
  obtain ⟨h1, h2, h3, h4⟩ := setL_facts l
  have hn : l.Nodup ↔ (comeL ts ss c).Nodup := hl.nodup_iff
  have hll := hl.length_eq
  have j6 : ∀ b, (b = true ↔ ¬ (l.Nodup ∧ 2 ≤ l.length ∧ l.length ≤ 24)) → WP (g_prizes_Next_j6 (setL l) b) (fun z => z = (nextL ts ss c, nextE ts ss c)) := fun b hb => by
    unfold g_prizes_Next_j6
    cases b
    · have hg : l.Nodup ∧ 2 ≤ l.length ∧ l.length ≤ 24 := by
        by_cases h : l.Nodup ∧ 2 ≤ l.length ∧ l.length ≤ 24
        · exact h
        · cases hb.2 h
      have e : nextE ts ss c = 0 := nextE_0 hpre ⟨hn.1 hg.1, by omega, by omega⟩
      refine WP.iteF (WP.ck h1 (WP.ck (by omega) (WP.ret ?_)))
      rw [nextL_ok e, e, setL_srtI hg.1, srtI_congr hl]
    · have hg := hb.1 rfl
      refine WP.iteT (WP.ret ?_)
      have e : nextE ts ss c = 190 := nextE_190 hpre (by rw [← hn, ← hll]; exact hg)
      rw [nextL_nil e (by omega), e]
  unfold g_prizes_Next_j5
  refine WP.iteN (fun h => ?_) (fun h => ?_)
  · refine j6 _ ?_
    simp only [true_iff]
    intro hg; exact h (by have := h4.2 hg.1; omega)
  have hnd := h4.1 (by omega)
  refine WP.iteD (fun h5 => ?_) (fun h5 => ?_)
  · refine j6 _ ?_
    simp only [true_iff]; omega
  · refine j6 _ ?_
    rw [decide_eq_true_eq]
    constructor
    · omega
    · intro hg
      by_cases h6 : l.length ≤ 24
      · exact absurd ⟨hnd, by omega, h6⟩ hg
      · omega
/-- What the clubs of one list leave: they are counted and put into the set. -/
theorem next_j4 {pre l : List Int} {n : Nat} (hpre : preE ts ss c = 0) (hn : n ≤ l.length) (hr : ∀ x ∈ l.take n, 0 ≤ x ∧ x ≤ 191) (hl : (pre ++ l.take n).Perm (comeL ts ss c)) (hlen : pre.length + n ≤ 1000) :
    WP (g_prizes_Next_j4 pre.length (setL pre) 0 n l) (fun z => z = (nextL ts ss c, nextE ts ss c)) := by
  have hin : (l.take n).length = n := by simp; omega
  unfold g_prizes_Next_j4
  refine WP.loop (fun v => v.1 ≤ n ∧ v.2.1 = (pre ++ (l.take n).take v.1).length ∧ v.2.2 = setL (pre ++ (l.take n).take v.1)) (fun v => n - v.1) ?_ ⟨by simp, by simp, by simp⟩
  rintro ⟨k, m, o⟩ ⟨hk, im, io⟩
  dsimp only at hk im io ⊢
  have hm : m = pre.length + k := by rw [im, List.length_append, List.length_take, hin]; omega
  simp only [g_prizes_Next_l7]
  refine WP.iteD (fun hlt => ?_) (fun hlt => ?_)
  · refine WP.ck (by omega) ?_
    obtain ⟨x, hx⟩ : ∃ x, (l.take n)[k]? = some x := ⟨_, List.getElem?_eq_getElem (by omega)⟩
    have hx2 : l[0 + k]? = some x := by rw [List.getElem?_take_of_lt (by omega)] at hx; rw [Nat.zero_add]; exact hx
    rw [gn_some hx2]
    have hxr := hr x (List.mem_of_getElem? hx)
    have hol := (setL_facts (pre ++ (l.take n).take k)).2.2.1
    rw [← im] at hol
    rw [← io] at hol
    refine WP.ckI (by omega) ?_
    refine WP.ck (by simp only [maxLen]; omega) ?_
    (repeat' (first | with_reducible (first | refine WP.iteT ?_ | refine WP.iteF ?_ | refine WP.iteNb ?_ | refine WP.iteD (fun _ => ?_) (fun _ => ?_) | refine WP.iteE (fun _ => ?_) (fun _ => ?_) | refine WP.iteN (fun _ => ?_) (fun _ => ?_) | refine WP.iteB (fun _ => ?_) (fun _ => ?_)) | (with_reducible refine WP.ckI ?_ ?_; · omega) | (with_reducible refine WP.gn ?_ (fun _ _ => ?_); · omega) | (with_reducible refine WP.gt ?_ (fun _ _ => ?_); · omega) | with_reducible (first | refine WP.up ?_ | refine WP.letO ?_ | refine WP.ret ?_)))
    refine ⟨⟨by dsimp only; omega, ?_, ?_⟩, by dsimp only; omega⟩
    · dsimp only
      rw [take_snoc hx, ← List.append_assoc, List.length_append, ← im]; rfl
    · dsimp only
      rw [take_snoc hx, ← List.append_assoc, setL_snoc, io]
  · have hkn : k = n := by omega
    subst hkn
    rw [List.take_take, Nat.min_self] at im io
    refine WP.up ?_
    rw [im, io]
    exact next_j5 hpre hl (by rw [List.length_append, hin]; omega)
/-- The clubs that stay are moved to the front. -/
theorem next_rest {pre l up down : List Int} {p : Int → Bool} (hp : ∀ x, p x = (!up.contains x && !down.contains x)) (hpre : preE ts ss c = 0) (hr : ∀ x ∈ l, 0 ≤ x ∧ x ≤ 191) (hl : (pre ++ l.filter p).Perm (comeL ts ss c)) (hlen : pre.length + l.length ≤ 1000) (hu : up.length ≤ 1000) (hd : down.length ≤ 1000) :
    WP (g_prizes_Next_j3 (up, down, 0) pre.length (setL pre) l) (fun z => z = (nextL ts ss c, nextE ts ss c)) := by
  have key : ∀ x, (if up.contains x = true then true else down.contains x) = !p x := fun x => by
    rw [hp]; cases up.contains x <;> cases down.contains x <;> rfl
  unfold g_prizes_Next_j3
  refine WP.loop (fun k => k ≤ l.length ∧ (l.take k).filter p = l.take k) (fun k => l.length - k) ?_ ⟨by omega, by simp⟩
  rintro k ⟨hk, iv⟩
  simp only [g_prizes_Next_l14]
  refine WP.iteD (fun hlt => ?_) (fun hlt => ?_)
  · obtain ⟨x, hx⟩ : ∃ x, l[k]? = some x := ⟨_, List.getElem?_eq_getElem (by omega)⟩
    rw [gn_some hx]
    have j15 : ∀ b, b = (!p x) → WP (g_prizes_Next_j15 pre.length (setL pre) l (up, down, 0) k b) (Rnd (fun k : Nat => k ≤ l.length ∧ (l.take k).filter p = l.take k) (fun k => l.length - k) (l.length - k) fun z => z = (nextL ts ss c, nextE ts ss c)) := fun b hb => by
      unfold g_prizes_Next_j15
      cases hpx : p x
      · rw [hpx] at hb
        subst hb
        refine WP.iteT (WP.up ?_)
        show WP _ (fun z => z = (nextL ts ss c, nextE ts ss c))
        unfold g_prizes_Next_j8
        refine WP.iteE (fun h => absurd h (by omega)) (fun _ => ?_)
        refine WP.ckI (by omega) ?_
        refine WP.loop (fun v => ∃ I J : Nat, v.1 = (I : Int) ∧ v.2.1 = (J : Int) ∧ I < J ∧ J ≤ l.length ∧ v.2.2.length = l.length ∧ v.2.2.take I = (l.take J).filter p ∧ v.2.2.drop J = l.drop J) (fun v => l.length - v.2.1.toNat) ?_ ⟨k, k + 1, rfl, by dsimp only; omega, by omega, by omega, rfl, by rw [take_snoc hx, List.filter_append, iv, List.filter_cons, hpx]; simp, rfl⟩
        rintro ⟨i, j, o⟩ ⟨I, J, rfl, rfl, hIJ, hJ, hol, it, id⟩
        dsimp only at hol it id ⊢
        simp only [g_prizes_Next_l10]
        refine WP.iteD (fun hlt2 => ?_) (fun hlt2 => ?_)
        · obtain ⟨y, hy⟩ : ∃ y, l[J]? = some y := ⟨_, List.getElem?_eq_getElem (by omega)⟩
          have hoy : o[J]? = some y := by
            have := congrArg (fun z => z[0]?) id
            simp only [List.getElem?_drop, Nat.add_zero] at this
            rw [this]; exact hy
          rw [gt_some (x := y) (by simpa using hoy) (by omega)]
          have j12 : ∀ b, b = (!p y) → WP (g_prizes_Next_j12 o ((I : Nat) : Int) ((J : Nat) : Int) (up, down, 0) pre.length (setL pre) y b) (Rnd (fun v : Int × Int × List Int => ∃ I J : Nat, v.1 = (I : Int) ∧ v.2.1 = (J : Int) ∧ I < J ∧ J ≤ l.length ∧ v.2.2.length = l.length ∧ v.2.2.take I = (l.take J).filter p ∧ v.2.2.drop J = l.drop J) (fun v => l.length - v.2.1.toNat) (l.length - (((J : Nat) : Int)).toNat) fun z => z = (nextL ts ss c, nextE ts ss c)) := fun b hb => by
            unfold g_prizes_Next_j12 g_prizes_Next_j11
            have hdr : o.drop (J + 1) = l.drop (J + 1) := by
              rw [← List.drop_drop, ← List.drop_drop, id]
            cases hpy : p y
            · rw [hpy] at hb
              subst hb
              (repeat' (first | with_reducible (first | refine WP.iteT ?_ | refine WP.iteF ?_ | refine WP.iteNb ?_ | refine WP.iteD (fun _ => ?_) (fun _ => ?_) | refine WP.iteE (fun _ => ?_) (fun _ => ?_) | refine WP.iteN (fun _ => ?_) (fun _ => ?_) | refine WP.iteB (fun _ => ?_) (fun _ => ?_)) | (with_reducible refine WP.ckI ?_ ?_; · omega) | (with_reducible refine WP.gn ?_ (fun _ _ => ?_); · omega) | (with_reducible refine WP.gt ?_ (fun _ _ => ?_); · omega) | with_reducible (first | refine WP.up ?_ | refine WP.letO ?_ | refine WP.ret ?_)))
              exact ⟨⟨I, J + 1, rfl, by dsimp only; omega, by omega, by omega, hol, by dsimp only; rw [take_snoc hy, List.filter_append, it, List.filter_cons, hpy]; simp, hdr⟩, by dsimp only; omega⟩
            · rw [hpy] at hb
              subst hb
              refine WP.iteNb (WP.iteF ?_)
              refine WP.gt (by omega) fun z hz => ?_
              (repeat' (first | with_reducible (first | refine WP.iteT ?_ | refine WP.iteF ?_ | refine WP.iteNb ?_ | refine WP.iteD (fun _ => ?_) (fun _ => ?_) | refine WP.iteE (fun _ => ?_) (fun _ => ?_) | refine WP.iteN (fun _ => ?_) (fun _ => ?_) | refine WP.iteB (fun _ => ?_) (fun _ => ?_)) | (with_reducible refine WP.ckI ?_ ?_; · omega) | (with_reducible refine WP.gn ?_ (fun _ _ => ?_); · omega) | (with_reducible refine WP.gt ?_ (fun _ _ => ?_); · omega) | with_reducible (first | refine WP.up ?_ | refine WP.letO ?_ | refine WP.ret ?_)))
              refine ⟨⟨I + 1, J + 1, by dsimp only; omega, by dsimp only; omega, by omega, by omega, by simpa using hol, ?_, ?_⟩, by dsimp only; omega⟩
              · dsimp only
                rw [show (((I : Nat) : Int)).toNat = I by omega]
                have e1 : (o.set I y)[I]? = some y := by rw [List.getElem?_set]; simp; omega
                rw [take_snoc e1, List.take_set_of_le (by omega), it, take_snoc hy, List.filter_append, List.filter_cons, hpy]; simp
              · dsimp only
                rw [show (((I : Nat) : Int)).toNat = I by omega, List.drop_set_of_lt (by omega), hdr]
          refine WP.bd (contains_eq hu) ?_
          have hk := key y
          refine WP.iteB (fun h => ?_) (fun h => ?_)
          · refine j12 _ ?_
            rw [h] at hk; exact hk
          · refine WP.bd (contains_eq hd) ?_
            refine j12 _ ?_
            rw [h] at hk; exact hk
        · have hJl : J = l.length := by omega
          subst hJl
          rw [List.take_length] at it
          have hil : (l.filter p).length = I := by rw [← it, List.length_take, hol]; omega
          refine WP.up ?_
          unfold g_prizes_Next_j9
          refine WP.sbp (by simp; omega) ?_
          refine WP.ck (by simp; omega) ?_
          refine WP.sbp (by simp; omega) ?_
          have e1 : ((some ((I : Nat) : Int)).getD 0).toNat = I := by simp
          have e2 : ((none : Option Int).getD 0).toNat = 0 := by simp
          simp only [e1, e2, Option.getD_some, Int.toNat_natCast, Nat.sub_zero]
          have e3 : ∀ m (z : List Int), (o.take I ++ List.replicate m 0 ++ z).take I = l.filter p := fun m z => by
            rw [List.append_assoc, List.take_append_of_le_length (by simp; omega), List.take_take, Nat.min_self, it]
          refine next_j4 hpre (by simp; omega) ?_ ?_ (by omega)
          · rw [e3]; exact fun x hx => hr x (List.mem_filter.1 hx).1
          · rw [e3]; exact hl
      · rw [hpx] at hb
        subst hb
        (repeat' (first | with_reducible (first | refine WP.iteT ?_ | refine WP.iteF ?_ | refine WP.iteNb ?_ | refine WP.iteD (fun _ => ?_) (fun _ => ?_) | refine WP.iteE (fun _ => ?_) (fun _ => ?_) | refine WP.iteN (fun _ => ?_) (fun _ => ?_) | refine WP.iteB (fun _ => ?_) (fun _ => ?_)) | (with_reducible refine WP.ckI ?_ ?_; · omega) | (with_reducible refine WP.gn ?_ (fun _ _ => ?_); · omega) | (with_reducible refine WP.gt ?_ (fun _ _ => ?_); · omega) | with_reducible (first | refine WP.up ?_ | refine WP.letO ?_ | refine WP.ret ?_)))
        exact ⟨⟨by omega, by rw [take_snoc hx, List.filter_append, iv, List.filter_cons, hpx]; simp⟩, by dsimp only; omega⟩
    refine WP.bd (contains_eq hu) ?_
    have hk := key x
    refine WP.iteB (fun h => ?_) (fun h => ?_)
    · refine j15 _ ?_
      rw [h] at hk; exact hk
    · refine WP.bd (contains_eq hd) ?_
      refine j15 _ ?_
      rw [h] at hk; exact hk
  · rw [List.take_of_length_le (by omega)] at iv
    refine WP.up ?_
    unfold g_prizes_Next_j13 g_prizes_Next_j8
    refine WP.iteE (fun _ => ?_) (fun h => absurd rfl h)
    rw [List.length_map]
    have e : l.take l.length = l := List.take_length
    refine next_j4 hpre (Nat.le_refl _) ?_ ?_ hlen
    · rw [e]; exact hr
    · rw [e, ← iv]; exact hl
theorem next_j2 {pre : List Int} (hpre : preE ts ss c = 0) (hm : movE (ofT ts ss c) (ofS ts ss c) = 0) (hft : ∀ t ∈ ts, t.l.length ≤ 30) (hl : pre = aboveL ts ss (ofS ts ss c).ab ++ belowL ts ss (ofS ts ss c).be) :
    WP (g_prizes_Next_j2 (⟨ofT ts ss c, ofS ts ss c⟩, true) (upM (ofT ts ss c) (ofS ts ss c), downM (ofT ts ss c) (ofS ts ss c), 0) pre.length (setL pre)) (fun z => z = (nextL ts ss c, nextE ts ss c)) := by
  have hcl := comeL_len (ss := ss) (c := c) hft
  have hle : pre.length ≤ 90 := by
    simp only [comeL, List.length_append] at hcl
    rw [hl, List.length_append]; omega
  have hT := ofT_len (ss := ss) hft c
  have hu := upM_length (ofT ts ss c) (ofS ts ss c)
  have hd := downM_length (ofT ts ss c) (ofS ts ss c)
  unfold g_prizes_Next_j2
  refine WP.loop (fun v => v.1 ≤ (ofT ts ss c).l.length ∧ v.2 = ((ofT ts ss c).l.take v.1).map clubOf) (fun v => (ofT ts ss c).l.length - v.1) ?_ ⟨by simp, by simp⟩
  rintro ⟨k, o⟩ ⟨hk, iv⟩
  dsimp only at hk iv ⊢
  have ho : o.length = k := by rw [iv]; simp; omega
  simp only [g_prizes_Next_l17]
  refine WP.iteD (fun hlt => ?_) (fun hlt => ?_)
  · obtain ⟨x, hx⟩ : ∃ x, (ofT ts ss c).l[k]? = some x := ⟨_, List.getElem?_eq_getElem (by omega)⟩
    rw [gn_some hx]
    refine WP.ck (by simp only [List.length_cons, List.length_nil]; omega) ?_
    (repeat' (first | with_reducible (first | refine WP.iteT ?_ | refine WP.iteF ?_ | refine WP.iteNb ?_ | refine WP.iteD (fun _ => ?_) (fun _ => ?_) | refine WP.iteE (fun _ => ?_) (fun _ => ?_) | refine WP.iteN (fun _ => ?_) (fun _ => ?_) | refine WP.iteB (fun _ => ?_) (fun _ => ?_)) | (with_reducible refine WP.ckI ?_ ?_; · omega) | (with_reducible refine WP.gn ?_ (fun _ _ => ?_); · omega) | (with_reducible refine WP.gt ?_ (fun _ _ => ?_); · omega) | with_reducible (first | refine WP.up ?_ | refine WP.letO ?_ | refine WP.ret ?_)))
    exact ⟨⟨by dsimp only; omega, by dsimp only; rw [take_snoc hx, List.map_append, iv]; rfl⟩, by dsimp only; omega⟩
  · rw [List.take_of_length_le (by omega)] at iv
    refine WP.up ?_
    unfold g_prizes_Next_j16
    refine WP.ck (by omega) ?_
    rw [iv]
    have hrng := chk_range (movE_chk hm).2
    refine next_rest (p := stays (ofT ts ss c) (ofS ts ss c)) (fun x => rfl) hpre (fun x hx => hrng x ((srtI_perm _).mem_iff.1 hx)) ?_ (by rw [srtI_length, List.length_map]; omega) (by omega) (by omega)
    rw [hl, comeL]
    exact ((srtI_perm _).filter _).append_left _
/-- A list of clubs is counted and put into the set. -/
theorem next_l20 {pre up : List Int} {r3 : List Int × Int} {r4 : League × Bool} {r7 : List Int × List Int × Int} {K : List Int × Int → Prop} (hr : ∀ x ∈ up, 0 ≤ x ∧ x ≤ 191) (hlen : pre.length + up.length ≤ 1000) (h : WP (g_prizes_Next_j2 r4 r7 (pre ++ up).length (setL (pre ++ up))) K) :
    WP (loopO (g_prizes_Next_l20 (up, r3) r4 r7) (0, pre.length, setL pre)) K := by
  refine WP.loop (fun v => v.1 ≤ up.length ∧ v.2.1 = (pre ++ up.take v.1).length ∧ v.2.2 = setL (pre ++ up.take v.1)) (fun v => up.length - v.1) ?_ ⟨by simp, by simp, by simp⟩
  rintro ⟨k, m, o⟩ ⟨hk, im, io⟩
  dsimp only at hk im io ⊢
  have hm : m = pre.length + k := by rw [im, List.length_append, List.length_take]; omega
  simp only [g_prizes_Next_l20]
  refine WP.iteD (fun hlt => ?_) (fun hlt => ?_)
  · obtain ⟨x, hx⟩ : ∃ x, up[k]? = some x := ⟨_, List.getElem?_eq_getElem (by omega)⟩
    rw [gn_some hx]
    have hxr := hr x (List.mem_of_getElem? hx)
    have hol := (setL_facts (pre ++ up.take k)).2.2.1
    rw [← im] at hol
    rw [← io] at hol
    refine WP.ckI (by omega) ?_
    refine WP.ck (by simp only [maxLen]; omega) ?_
    (repeat' (first | with_reducible (first | refine WP.iteT ?_ | refine WP.iteF ?_ | refine WP.iteNb ?_ | refine WP.iteD (fun _ => ?_) (fun _ => ?_) | refine WP.iteE (fun _ => ?_) (fun _ => ?_) | refine WP.iteN (fun _ => ?_) (fun _ => ?_) | refine WP.iteB (fun _ => ?_) (fun _ => ?_)) | (with_reducible refine WP.ckI ?_ ?_; · omega) | (with_reducible refine WP.gn ?_ (fun _ _ => ?_); · omega) | (with_reducible refine WP.gt ?_ (fun _ _ => ?_); · omega) | with_reducible (first | refine WP.up ?_ | refine WP.letO ?_ | refine WP.ret ?_)))
    refine ⟨⟨by dsimp only; omega, ?_, ?_⟩, by dsimp only; omega⟩
    · dsimp only
      rw [take_snoc hx, ← List.append_assoc, List.length_append, ← im]; rfl
    · dsimp only
      rw [take_snoc hx, ← List.append_assoc, setL_snoc, io]
  · rw [List.take_of_length_le (by omega)] at im io
    refine WP.up ?_
    unfold g_prizes_Next_j19
    rw [im, io]
    exact h
theorem next_l23 {down : List Int} {r1 : List Int} {e : Int} {r4 : League × Bool} {r7 : List Int × List Int × Int} {n : Int} {K : List Int × Int → Prop} (hr : ∀ x ∈ down, 0 ≤ x ∧ x ≤ 191) (hlen : down.length ≤ 1000) (h : WP (g_prizes_Next_j1 r4 ts ss r7 n down.length (setL down)) K) :
    WP (loopO (g_prizes_Next_l23 (r1, down, e) r4 ts ss r7 n) (0, 0, [])) K := by
  refine WP.loop (fun v => v.1 ≤ down.length ∧ v.2.1 = (down.take v.1).length ∧ v.2.2 = setL (down.take v.1)) (fun v => down.length - v.1) ?_ ⟨by simp, by simp, by simp [setL]⟩
  rintro ⟨k, m, o⟩ ⟨hk, im, io⟩
  dsimp only at hk im io ⊢
  have hm : m = k := by rw [im, List.length_take]; omega
  simp only [g_prizes_Next_l23]
  refine WP.iteD (fun hlt => ?_) (fun hlt => ?_)
  · obtain ⟨x, hx⟩ : ∃ x, down[k]? = some x := ⟨_, List.getElem?_eq_getElem (by omega)⟩
    rw [gn_some hx]
    have hxr := hr x (List.mem_of_getElem? hx)
    have hol := (setL_facts (down.take k)).2.2.1
    rw [← im] at hol
    rw [← io] at hol
    refine WP.ckI (by omega) ?_
    refine WP.ck (by simp only [maxLen]; omega) ?_
    (repeat' (first | with_reducible (first | refine WP.iteT ?_ | refine WP.iteF ?_ | refine WP.iteNb ?_ | refine WP.iteD (fun _ => ?_) (fun _ => ?_) | refine WP.iteE (fun _ => ?_) (fun _ => ?_) | refine WP.iteN (fun _ => ?_) (fun _ => ?_) | refine WP.iteB (fun _ => ?_) (fun _ => ?_)) | (with_reducible refine WP.ckI ?_ ?_; · omega) | (with_reducible refine WP.gn ?_ (fun _ _ => ?_); · omega) | (with_reducible refine WP.gt ?_ (fun _ _ => ?_); · omega) | with_reducible (first | refine WP.up ?_ | refine WP.letO ?_ | refine WP.ret ?_)))
    refine ⟨⟨by dsimp only; omega, ?_, ?_⟩, by dsimp only; omega⟩
    · dsimp only
      rw [take_snoc hx, List.length_append, ← im]; rfl
    · dsimp only
      rw [take_snoc hx, setL_snoc, io]
  · rw [List.take_of_length_le (by omega)] at im io
    refine WP.up ?_
    unfold g_prizes_Next_j22
    rw [im, io]
    exact h
theorem next_eq (h1 : ts.length ≤ 1000) (h2 : ss.length ≤ 1000) (hft : ∀ t ∈ ts, t.l.length ≤ 30) (hfs : ∀ s ∈ ss, s.p.length ≤ 30) : g_prizes_Next ts ss c = some (nextL ts ss c, nextE ts ss c) := by
  refine WP.eq ?_
  have bad : ∀ e : Int, nextE ts ss c = e → e ≠ 0 → (([] : List Int), e) = (nextL ts ss c, nextE ts ss c) := fun e he h0 => by rw [nextL_nil he h0, he]
  have hlen := fun n => ofT_len (ss := ss) hft n
  have hlenS := fun n => ofS_len (ts := ts) hfs n
  unfold g_prizes_Next
  refine WP.bd (of_eq h1 h2) ?_
  dsimp only
  cases hb : ofB ts ss c
  · refine WP.iteNb (WP.iteF (WP.ret ?_))
    exact bad 420 (err_1 hb) (by omega)
  refine WP.iteNb (WP.iteT ?_)
  refine WP.bd (moves_eq (by have := hlen c; omega) (by have := hlenS c; omega)) ?_
  dsimp only
  refine WP.iteN (fun hm => ?_) (fun hm => ?_)
  · exact WP.ret (bad _ (err_2 hb hm) hm)
  rw [hm]
  have hal : (aboveL ts ss (ofS ts ss c).ab).length ≤ 90 := by
    have := comeL_len (ss := ss) (c := c) hft
    simp only [comeL, List.length_append] at this; omega
  have j1 : aboveE ts ss c = 0 → WP (g_prizes_Next_j1 (⟨ofT ts ss c, ofS ts ss c⟩, true) ts ss (upM (ofT ts ss c) (ofS ts ss c), downM (ofT ts ss c) (ofS ts ss c), 0) c (aboveL ts ss (ofS ts ss c).ab).length (setL (aboveL ts ss (ofS ts ss c).ab))) (fun z => z = (nextL ts ss c, nextE ts ss c)) := fun ha => by
    unfold g_prizes_Next_j1
    dsimp only
    refine WP.iteN (fun hn => ?_) (fun hn => ?_)
    · refine WP.bd (of_eq h1 h2) ?_
      dsimp only
      have j18t : (ofB ts ss (ofS ts ss c).be = false ∨ (ofT ts ss (ofS ts ss c).be).s ≠ (ofT ts ss c).s ∨ (ofS ts ss (ofS ts ss c).be).ab ≠ c) → ∀ r r4 r7 n m, WP (g_prizes_Next_j18 r r4 r7 n m true) (fun z => z = (nextL ts ss c, nextE ts ss c)) := fun hd r r4 r7 n m => by
        unfold g_prizes_Next_j18
        refine WP.iteT (WP.ret ?_)
        exact bad 420 (err_5 hb hm ha hn hd) (by omega)
      cases hb2 : ofB ts ss (ofS ts ss c).be
      · refine WP.iteNb (WP.iteF ?_)
        exact j18t (.inl hb2) _ _ _ _ _
      refine WP.iteNb (WP.iteT ?_)
      refine WP.iteN (fun h3 => j18t (.inr (.inl h3)) _ _ _ _ _) (fun h3 => ?_)
      by_cases h4 : (ofS ts ss (ofS ts ss c).be).ab = c
      · rw [show ((ofS ts ss (ofS ts ss c).be).ab != c) = false by simpa using h4]
        unfold g_prizes_Next_j18
        refine WP.iteF ?_
        refine WP.bd (moves_eq (by have := hlen (ofS ts ss c).be; dsimp only; omega) (by have := hlenS (ofS ts ss c).be; dsimp only; omega)) ?_
        dsimp only
        refine WP.iteN (fun hm2 => ?_) (fun hm2 => ?_)
        · exact WP.ret (bad _ (err_6 hb hm ha hn hb2 h3 h4 hm2) hm2)
        have hul := upM_length (ofT ts ss (ofS ts ss c).be) (ofS ts ss (ofS ts ss c).be)
        have := hlen (ofS ts ss c).be
        have hbe : belowE ts ss c = 0 := (sideE_ok hn hb2 h3 h4).trans hm2
        have hrng := chk_range (movE_chk hm2).2
        refine next_l20 (fun x hx => hrng x (upM_sub hm2 x hx)) (by omega) ?_
        refine next_j2 ((preE_4 hb hm ha).trans hbe) hm hft ?_
        rw [belowL, if_neg hn]
      · rw [show ((ofS ts ss (ofS ts ss c).be).ab != c) = true by simpa using h4]
        exact j18t (.inr (.inr h4)) _ _ _ _ _
    · have hbe : belowE ts ss c = 0 := sideE_skip hn
      refine next_j2 ((preE_4 hb hm ha).trans hbe) hm hft ?_
      rw [belowL, if_pos hn, List.append_nil]
  refine WP.iteN (fun hn => ?_) (fun hn => ?_)
  · refine WP.bd (of_eq h1 h2) ?_
    dsimp only
    have j21t : (ofB ts ss (ofS ts ss c).ab = false ∨ (ofT ts ss (ofS ts ss c).ab).s ≠ (ofT ts ss c).s ∨ (ofS ts ss (ofS ts ss c).ab).be ≠ c) → ∀ r r4 r7, WP (g_prizes_Next_j21 r r4 ts ss r7 c true) (fun z => z = (nextL ts ss c, nextE ts ss c)) := fun hd r r4 r7 => by
      unfold g_prizes_Next_j21
      refine WP.iteT (WP.ret ?_)
      exact bad 420 (err_3 hb hm hn hd) (by omega)
    cases hb2 : ofB ts ss (ofS ts ss c).ab
    · refine WP.iteNb (WP.iteF ?_)
      exact j21t (.inl hb2) _ _ _
    refine WP.iteNb (WP.iteT ?_)
    refine WP.iteN (fun h3 => j21t (.inr (.inl h3)) _ _ _) (fun h3 => ?_)
    by_cases h4 : (ofS ts ss (ofS ts ss c).ab).be = c
    · rw [show ((ofS ts ss (ofS ts ss c).ab).be != c) = false by simpa using h4]
      unfold g_prizes_Next_j21
      refine WP.iteF ?_
      refine WP.bd (moves_eq (by have := hlen (ofS ts ss c).ab; dsimp only; omega) (by have := hlenS (ofS ts ss c).ab; dsimp only; omega)) ?_
      dsimp only
      refine WP.iteN (fun hm2 => ?_) (fun hm2 => ?_)
      · exact WP.ret (bad _ (err_4 hb hm hn hb2 h3 h4 hm2) hm2)
      have hul := downM_length (ofT ts ss (ofS ts ss c).ab) (ofS ts ss (ofS ts ss c).ab)
      have := hlen (ofS ts ss c).ab
      have hae : aboveE ts ss c = 0 := (sideE_ok hn hb2 h3 h4).trans hm2
      have hrng := chk_range (movE_chk hm2).2
      refine next_l23 (fun x hx => hrng x (downM_sub hm2 x hx)) (by omega) ?_
      have := j1 hae
      rw [aboveL, if_neg hn] at this
      exact this
    · rw [show ((ofS ts ss (ofS ts ss c).ab).be != c) = true by simpa using h4]
      exact j21t (.inr (.inr h4)) _ _ _
  · have := j1 (sideE_skip hn)
    rw [aboveL, if_pos hn] at this
    exact this
end
end Go.Proofs.YtoiiblkncbnlaaaGreat

/-
  Chapter 42: comparisons, the size of the statements' inputs, the chapter's examples, the three statements about the reference. Conditions: those of each theorem.
-/
set_option linter.unusedVariables false
set_option linter.unusedSimpArgs false
namespace Go.Proofs.YtoiiblkncbnlaaaGreat
open Go.DL
set_option maxHeartbeats 4000000
theorem same_eq {a b : List Pay} (h : a.length ≤ 1000) : WP (g_ref42_Same a b) (fun z => (z = true ↔ a = b)) := by
  unfold g_ref42_Same
  refine WP.iteN (fun hl => ?_) (fun hl => ?_)
  · refine WP.ret ?_
    simp only [Bool.false_eq_true, false_iff]
    rintro rfl; exact hl rfl
  refine WP.loop (fun k => k ≤ a.length ∧ a.take k = b.take k) (fun k => a.length - k) ?_ ⟨by omega, by simp⟩
  rintro k ⟨hk, iv⟩
  simp only [g_ref42_Same_l2]
  refine WP.iteD (fun hlt => ?_) (fun hlt => ?_)
  · obtain ⟨x, hx⟩ : ∃ x, a[k]? = some x := ⟨_, List.getElem?_eq_getElem (by omega)⟩
    obtain ⟨y, hy⟩ : ∃ y, b[k]? = some y := ⟨_, List.getElem?_eq_getElem (by omega)⟩
    rw [gn_some hx, gn_some hy]
    by_cases he : x = y
    · subst he
      rw [show (!((x.c == x.c) && ((x.a == x.a) && true))) = false by simp]
      (repeat' (first | with_reducible (first | refine WP.iteT ?_ | refine WP.iteF ?_ | refine WP.iteNb ?_ | refine WP.iteD (fun _ => ?_) (fun _ => ?_) | refine WP.iteE (fun _ => ?_) (fun _ => ?_) | refine WP.iteN (fun _ => ?_) (fun _ => ?_) | refine WP.iteB (fun _ => ?_) (fun _ => ?_)) | (with_reducible refine WP.ckI ?_ ?_; · omega) | (with_reducible refine WP.gn ?_ (fun _ _ => ?_); · omega) | (with_reducible refine WP.gt ?_ (fun _ _ => ?_); · omega) | with_reducible (first | refine WP.up ?_ | refine WP.letO ?_ | refine WP.ret ?_)))
      exact ⟨⟨by omega, by rw [take_snoc hx, take_snoc hy, iv]⟩, by dsimp only; omega⟩
    · have hne : (!((x.c == y.c) && ((x.a == y.a) && true))) = true := by
        by_cases h1 : x.c = y.c
        · by_cases h2 : x.a = y.a
          · exact absurd (by cases x; cases y; simp at h1 h2; subst h1; subst h2; rfl) he
          · simp [h2]
        · simp [h1]
      rw [hne]
      (repeat' (first | with_reducible (first | refine WP.iteT ?_ | refine WP.iteF ?_ | refine WP.iteNb ?_ | refine WP.iteD (fun _ => ?_) (fun _ => ?_) | refine WP.iteE (fun _ => ?_) (fun _ => ?_) | refine WP.iteN (fun _ => ?_) (fun _ => ?_) | refine WP.iteB (fun _ => ?_) (fun _ => ?_)) | (with_reducible refine WP.ckI ?_ ?_; · omega) | (with_reducible refine WP.gn ?_ (fun _ _ => ?_); · omega) | (with_reducible refine WP.gt ?_ (fun _ _ => ?_); · omega) | with_reducible (first | refine WP.up ?_ | refine WP.letO ?_ | refine WP.ret ?_)))
      show (false = true ↔ a = b)
      simp only [Bool.false_eq_true, false_iff]
      rintro rfl
      rw [hx] at hy; exact he (Option.some.inj hy)
  · unfold g_ref42_Same_j1
    (repeat' (first | with_reducible (first | refine WP.iteT ?_ | refine WP.iteF ?_ | refine WP.iteNb ?_ | refine WP.iteD (fun _ => ?_) (fun _ => ?_) | refine WP.iteE (fun _ => ?_) (fun _ => ?_) | refine WP.iteN (fun _ => ?_) (fun _ => ?_) | refine WP.iteB (fun _ => ?_) (fun _ => ?_)) | (with_reducible refine WP.ckI ?_ ?_; · omega) | (with_reducible refine WP.gn ?_ (fun _ _ => ?_); · omega) | (with_reducible refine WP.gt ?_ (fun _ _ => ?_); · omega) | with_reducible (first | refine WP.up ?_ | refine WP.letO ?_ | refine WP.ret ?_)))
    show (true = true ↔ a = b)
    rw [List.take_of_length_le (by omega), List.take_of_length_le (by omega)] at iv
    simp [iv]
theorem sameInts_eq {a b : List Int} (h : a.length ≤ 1000) : WP (g_ref42_SameInts a b) (fun z => (z = true ↔ a = b)) := by
  unfold g_ref42_SameInts
  refine WP.iteN (fun hl => ?_) (fun hl => ?_)
  · refine WP.ret ?_
    simp only [Bool.false_eq_true, false_iff]
    rintro rfl; exact hl rfl
  refine WP.loop (fun k => k ≤ a.length ∧ a.take k = b.take k) (fun k => a.length - k) ?_ ⟨by omega, by simp⟩
  rintro k ⟨hk, iv⟩
  simp only [g_ref42_SameInts_l2]
  refine WP.iteD (fun hlt => ?_) (fun hlt => ?_)
  · obtain ⟨x, hx⟩ : ∃ x, a[k]? = some x := ⟨_, List.getElem?_eq_getElem (by omega)⟩
    obtain ⟨y, hy⟩ : ∃ y, b[k]? = some y := ⟨_, List.getElem?_eq_getElem (by omega)⟩
    rw [gn_some hx, gn_some hy]
    refine WP.iteN (fun he => ?_) (fun he => ?_)
    · (repeat' (first | with_reducible (first | refine WP.iteT ?_ | refine WP.iteF ?_ | refine WP.iteNb ?_ | refine WP.iteD (fun _ => ?_) (fun _ => ?_) | refine WP.iteE (fun _ => ?_) (fun _ => ?_) | refine WP.iteN (fun _ => ?_) (fun _ => ?_) | refine WP.iteB (fun _ => ?_) (fun _ => ?_)) | (with_reducible refine WP.ckI ?_ ?_; · omega) | (with_reducible refine WP.gn ?_ (fun _ _ => ?_); · omega) | (with_reducible refine WP.gt ?_ (fun _ _ => ?_); · omega) | with_reducible (first | refine WP.up ?_ | refine WP.letO ?_ | refine WP.ret ?_)))
      show (false = true ↔ a = b)
      simp only [Bool.false_eq_true, false_iff]
      rintro rfl
      rw [hx] at hy; exact he (Option.some.inj hy)
    · subst he
      (repeat' (first | with_reducible (first | refine WP.iteT ?_ | refine WP.iteF ?_ | refine WP.iteNb ?_ | refine WP.iteD (fun _ => ?_) (fun _ => ?_) | refine WP.iteE (fun _ => ?_) (fun _ => ?_) | refine WP.iteN (fun _ => ?_) (fun _ => ?_) | refine WP.iteB (fun _ => ?_) (fun _ => ?_)) | (with_reducible refine WP.ckI ?_ ?_; · omega) | (with_reducible refine WP.gn ?_ (fun _ _ => ?_); · omega) | (with_reducible refine WP.gt ?_ (fun _ _ => ?_); · omega) | with_reducible (first | refine WP.up ?_ | refine WP.letO ?_ | refine WP.ret ?_)))
      exact ⟨⟨by omega, by rw [take_snoc hx, take_snoc hy, iv]⟩, by dsimp only; omega⟩
  · unfold g_ref42_SameInts_j1
    (repeat' (first | with_reducible (first | refine WP.iteT ?_ | refine WP.iteF ?_ | refine WP.iteNb ?_ | refine WP.iteD (fun _ => ?_) (fun _ => ?_) | refine WP.iteE (fun _ => ?_) (fun _ => ?_) | refine WP.iteN (fun _ => ?_) (fun _ => ?_) | refine WP.iteB (fun _ => ?_) (fun _ => ?_)) | (with_reducible refine WP.ckI ?_ ?_; · omega) | (with_reducible refine WP.gn ?_ (fun _ _ => ?_); · omega) | (with_reducible refine WP.gt ?_ (fun _ _ => ?_); · omega) | with_reducible (first | refine WP.up ?_ | refine WP.letO ?_ | refine WP.ret ?_)))
    show (true = true ↔ a = b)
    rw [List.take_of_length_le (by omega), List.take_of_length_le (by omega)] at iv
    simp [iv]
theorem few_eq (ts : List Tab) (ss : List Sch) : WP (g_ref42_Few ts ss) (fun z => (z = true ↔ Few ts ss)) := by
  have no : ¬ Few ts ss → (false = true ↔ Few ts ss) := fun h => by simp [h]
  have j1 : ∀ b, (b = true → ¬ Few ts ss) → (b = false → ts.length ≤ 5 ∧ ss.length ≤ 5) → WP (g_ref42_Few_j1 ts ss b) (fun z => (z = true ↔ Few ts ss)) := fun b h1 h2 => by
    unfold g_ref42_Few_j1
    cases b
    · obtain ⟨h3, h4⟩ := h2 rfl
      refine WP.iteF ?_
      refine WP.loop (fun k => k ≤ ts.length ∧ ∀ t ∈ ts.take k, t.l.length ≤ 30) (fun k => ts.length - k) ?_ ⟨by omega, by simp⟩
      rintro k ⟨hk, iv⟩
      simp only [g_ref42_Few_l5]
      refine WP.iteD (fun hlt => ?_) (fun hlt => ?_)
      · obtain ⟨x, hx⟩ : ∃ x, ts[k]? = some x := ⟨_, List.getElem?_eq_getElem (by omega)⟩
        rw [gn_some hx]
        refine WP.iteD (fun h5 => ?_) (fun h5 => ?_)
        · (repeat' (first | with_reducible (first | refine WP.iteT ?_ | refine WP.iteF ?_ | refine WP.iteNb ?_ | refine WP.iteD (fun _ => ?_) (fun _ => ?_) | refine WP.iteE (fun _ => ?_) (fun _ => ?_) | refine WP.iteN (fun _ => ?_) (fun _ => ?_) | refine WP.iteB (fun _ => ?_) (fun _ => ?_)) | (with_reducible refine WP.ckI ?_ ?_; · omega) | (with_reducible refine WP.gn ?_ (fun _ _ => ?_); · omega) | (with_reducible refine WP.gt ?_ (fun _ _ => ?_); · omega) | with_reducible (first | refine WP.up ?_ | refine WP.letO ?_ | refine WP.ret ?_)))
          refine no fun hf => ?_
          have := hf.2.2.1 x (List.mem_of_getElem? hx)
          omega
        · (repeat' (first | with_reducible (first | refine WP.iteT ?_ | refine WP.iteF ?_ | refine WP.iteNb ?_ | refine WP.iteD (fun _ => ?_) (fun _ => ?_) | refine WP.iteE (fun _ => ?_) (fun _ => ?_) | refine WP.iteN (fun _ => ?_) (fun _ => ?_) | refine WP.iteB (fun _ => ?_) (fun _ => ?_)) | (with_reducible refine WP.ckI ?_ ?_; · omega) | (with_reducible refine WP.gn ?_ (fun _ _ => ?_); · omega) | (with_reducible refine WP.gt ?_ (fun _ _ => ?_); · omega) | with_reducible (first | refine WP.up ?_ | refine WP.letO ?_ | refine WP.ret ?_)))
          exact ⟨⟨by omega, all_snoc iv hx (by omega)⟩, by dsimp only; omega⟩
      · rw [List.take_of_length_le (by omega)] at iv
        refine WP.up ?_
        unfold g_ref42_Few_j2
        refine WP.loop (fun k => k ≤ ss.length ∧ ∀ s ∈ ss.take k, s.p.length ≤ 30) (fun k => ss.length - k) ?_ ⟨by omega, by simp⟩
        rintro j ⟨hj, iw⟩
        simp only [g_ref42_Few_l4]
        refine WP.iteD (fun hlt2 => ?_) (fun hlt2 => ?_)
        · obtain ⟨x, hx⟩ : ∃ x, ss[j]? = some x := ⟨_, List.getElem?_eq_getElem (by omega)⟩
          rw [gn_some hx]
          refine WP.iteD (fun h5 => ?_) (fun h5 => ?_)
          · (repeat' (first | with_reducible (first | refine WP.iteT ?_ | refine WP.iteF ?_ | refine WP.iteNb ?_ | refine WP.iteD (fun _ => ?_) (fun _ => ?_) | refine WP.iteE (fun _ => ?_) (fun _ => ?_) | refine WP.iteN (fun _ => ?_) (fun _ => ?_) | refine WP.iteB (fun _ => ?_) (fun _ => ?_)) | (with_reducible refine WP.ckI ?_ ?_; · omega) | (with_reducible refine WP.gn ?_ (fun _ _ => ?_); · omega) | (with_reducible refine WP.gt ?_ (fun _ _ => ?_); · omega) | with_reducible (first | refine WP.up ?_ | refine WP.letO ?_ | refine WP.ret ?_)))
            refine no fun hf => ?_
            have := hf.2.2.2 x (List.mem_of_getElem? hx)
            omega
          · (repeat' (first | with_reducible (first | refine WP.iteT ?_ | refine WP.iteF ?_ | refine WP.iteNb ?_ | refine WP.iteD (fun _ => ?_) (fun _ => ?_) | refine WP.iteE (fun _ => ?_) (fun _ => ?_) | refine WP.iteN (fun _ => ?_) (fun _ => ?_) | refine WP.iteB (fun _ => ?_) (fun _ => ?_)) | (with_reducible refine WP.ckI ?_ ?_; · omega) | (with_reducible refine WP.gn ?_ (fun _ _ => ?_); · omega) | (with_reducible refine WP.gt ?_ (fun _ _ => ?_); · omega) | with_reducible (first | refine WP.up ?_ | refine WP.letO ?_ | refine WP.ret ?_)))
            exact ⟨⟨by omega, all_snoc iw hx (by omega)⟩, by dsimp only; omega⟩
        · rw [List.take_of_length_le (by omega)] at iw
          unfold g_ref42_Few_j3
          (repeat' (first | with_reducible (first | refine WP.iteT ?_ | refine WP.iteF ?_ | refine WP.iteNb ?_ | refine WP.iteD (fun _ => ?_) (fun _ => ?_) | refine WP.iteE (fun _ => ?_) (fun _ => ?_) | refine WP.iteN (fun _ => ?_) (fun _ => ?_) | refine WP.iteB (fun _ => ?_) (fun _ => ?_)) | (with_reducible refine WP.ckI ?_ ?_; · omega) | (with_reducible refine WP.gn ?_ (fun _ _ => ?_); · omega) | (with_reducible refine WP.gt ?_ (fun _ _ => ?_); · omega) | with_reducible (first | refine WP.up ?_ | refine WP.letO ?_ | refine WP.ret ?_)))
          show (true = true ↔ Few ts ss)
          simp only [true_iff]
          exact ⟨h3, h4, iv, iw⟩
    · refine WP.iteT (WP.ret ?_)
      exact no (h1 rfl)
  unfold g_ref42_Few
  refine WP.iteD (fun h => ?_) (fun h => ?_)
  · refine j1 _ (fun _ hf => ?_) (fun hb => by cases hb)
    have := hf.1; omega
  · refine j1 _ (fun hb hf => ?_) (fun hb => ?_)
    · have := hf.2.1
      have := of_decide_eq_true hb
      omega
    · have := of_decide_eq_false hb
      omega
theorem level_eq {c : Int} {cs : List Int} (h : cs.length ≤ 1000) : g_law42_level c cs = some (levelT c cs) := by
  refine WP.eq ?_
  unfold g_law42_level
  refine WP.loop (fun v => v.1 ≤ cs.length ∧ v.2 = (cs.take v.1).map tied) (fun v => cs.length - v.1) ?_ ⟨by simp, by simp⟩
  rintro ⟨k, o⟩ ⟨hk, iv⟩
  dsimp only at hk iv ⊢
  have ho : o.length = k := by rw [iv]; simp; omega
  simp only [g_law42_level_l2]
  refine WP.iteD (fun hlt => ?_) (fun hlt => ?_)
  · obtain ⟨x, hx⟩ : ∃ x, cs[k]? = some x := ⟨_, List.getElem?_eq_getElem (by omega)⟩
    rw [gn_some hx]
    refine WP.ck (by simp only [List.length_cons, List.length_nil]; omega) ?_
    (repeat' (first | with_reducible (first | refine WP.iteT ?_ | refine WP.iteF ?_ | refine WP.iteNb ?_ | refine WP.iteD (fun _ => ?_) (fun _ => ?_) | refine WP.iteE (fun _ => ?_) (fun _ => ?_) | refine WP.iteN (fun _ => ?_) (fun _ => ?_) | refine WP.iteB (fun _ => ?_) (fun _ => ?_)) | (with_reducible refine WP.ckI ?_ ?_; · omega) | (with_reducible refine WP.gn ?_ (fun _ _ => ?_); · omega) | (with_reducible refine WP.gt ?_ (fun _ _ => ?_); · omega) | with_reducible (first | refine WP.up ?_ | refine WP.letO ?_ | refine WP.ret ?_)))
    exact ⟨⟨by dsimp only; omega, level_step iv hx⟩, by dsimp only; omega⟩
  · unfold g_law42_level_j1
    (repeat' (first | with_reducible (first | refine WP.iteT ?_ | refine WP.iteF ?_ | refine WP.iteNb ?_ | refine WP.iteD (fun _ => ?_) (fun _ => ?_) | refine WP.iteE (fun _ => ?_) (fun _ => ?_) | refine WP.iteN (fun _ => ?_) (fun _ => ?_) | refine WP.iteB (fun _ => ?_) (fun _ => ?_)) | (with_reducible refine WP.ckI ?_ ?_; · omega) | (with_reducible refine WP.gn ?_ (fun _ _ => ?_); · omega) | (with_reducible refine WP.gt ?_ (fun _ _ => ?_); · omega) | with_reducible (first | refine WP.up ?_ | refine WP.letO ?_ | refine WP.ret ?_)))
    rw [iv, List.take_of_length_le (by omega)]; rfl
/-! ### the chapter's examples -/
def sc1 : Sch := ⟨2, [⟨1, 2, 101⟩], 0, 0, -1, -1⟩
def sc2 : Sch := ⟨2, [⟨1, 2, 101⟩], 3, 0, 1, -1⟩
def ta1 : Tab := levelT 2 [4, 9]
theorem ex_fit : fitS ta1 sc1 = 0 := by decide
theorem ex_pay : payU ta1 sc1 = [⟨4, 51⟩, ⟨9, 50⟩] := by decide
theorem ex_pay2 : srtP (payU ta1 sc1) = [⟨4, 51⟩, ⟨9, 50⟩] := by
  rw [← insAll_eq (by rw [ex_pay]; decide), ex_pay]; decide
theorem ex_mov : movE ta1 sc1 = 0 := by decide
theorem ex_of : ofB [ta1] [sc1] 2 = true ∧ ofT [ta1] [sc1] 2 = ta1 ∧ ofS [ta1] [sc1] 2 = sc1 := by
  have h : ofB [ta1] [sc1] 2 = true := by decide
  exact ⟨h, ofT_yes h (by rfl), ofS_yes h (by rfl)⟩
theorem ex_none : clubsL [] = [] := by rw [clubsL, ← insAllI_eq]; rfl
theorem ex_rest : restL ta1 sc1 = [4, 9] := by
  have h1 : upM ta1 sc1 = [] := by rw [upM_ok ex_mov]; exact ex_none
  have h2 : downM ta1 sc1 = [] := by rw [downM_ok ex_mov]; exact ex_none
  unfold restL
  rw [show stays ta1 sc1 = fun _ => true by funext x; unfold stays; rw [h1, h2]; rfl]
  decide
theorem ex_come : comeL [ta1] [sc1] 2 = [4, 9] := by
  obtain ⟨_, h2, h3⟩ := ex_of
  unfold comeL
  rw [h2, h3, ex_rest]
  rfl
theorem ex_next : nextE [ta1] [sc1] 2 = 0 ∧ nextL [ta1] [sc1] 2 = [4, 9] := by
  obtain ⟨h1, h2, h3⟩ := ex_of
  have ha : aboveE [ta1] [sc1] 2 = 0 := sideE_skip (by rw [h3]; rfl)
  have hb : belowE [ta1] [sc1] 2 = 0 := sideE_skip (by rw [h3]; rfl)
  have hp := (preE_4 h1 (by rw [h2, h3]; exact ex_mov) ha).trans hb
  have e := nextE_0 hp (by rw [ex_come]; decide)
  refine ⟨e, ?_⟩
  rw [nextL_ok e, ex_come, ← insAllI_eq]; decide
theorem sane_eq : g_law42_sane = some true := by
  refine WP.eq ?_
  unfold g_law42_sane
  refine WP.bd (level_eq (by simp)) ?_
  refine WP.bd (r := ([⟨4, 51⟩, ⟨9, 50⟩], 0)) ?_ ?_
  · refine (gprizes_eq (by simp [levelT]) (by simp)).trans ?_
    show some (if fitS ta1 sc1 = 0 then srtP (payU ta1 sc1) else [], fitS ta1 sc1) = _
    rw [ex_fit, ex_pay2]; rfl
  refine WP.bd (r := ([4, 9], 0)) ?_ ?_
  · refine (next_eq (by simp) (by simp) (by simp [levelT]) (by simp)).trans ?_
    show some (nextL [ta1] [sc1] 2, nextE [ta1] [sc1] 2) = _
    rw [ex_next.1, ex_next.2]
  refine WP.bd (r := ([], 420)) ?_ ?_
  · refine (next_eq (by simp) (by simp) (by simp) (by simp)).trans ?_
    have e : nextE [] [] 0 = 420 := err_1 (by decide)
    rw [nextL_nil e (by omega), e]
  refine WP.bd (r := ([], 1)) ?_ ?_
  · refine (gprizes_eq (by simp) (by simp)).trans ?_
    show some (if fitS ⟨0, 0, []⟩ sc1 = 0 then srtP (payU ⟨0, 0, []⟩ sc1) else [], fitS ⟨0, 0, []⟩ sc1) = _
    have e : fitS ⟨0, 0, []⟩ sc1 = 1 := by decide
    rw [e]; rfl
  refine WP.bd (r := ([], [], 420)) ?_ ?_
  · refine (moves_eq (by simp [levelT]) (by simp)).trans ?_
    show some (upM ta1 sc2, downM ta1 sc2, movE ta1 sc2) = _
    have e : movE ta1 sc2 = 420 := by decide
    rw [upM_nil (by omega), downM_nil (by omega), e]
  refine WP.iteN (fun h => absurd rfl h) (fun _ => ?_)
  refine WP.iteN (fun h => absurd rfl h) (fun _ => ?_)
  refine WP.iteN (fun h => absurd rfl h) (fun _ => ?_)
  refine WP.bd (r := 1) ((tcheck_eq (by simp)).trans (by rfl)) ?_
  refine WP.iteN (fun h => absurd rfl h) (fun _ => ?_)
  refine WP.iteE (fun h => by cases h) (fun _ => ?_)
  rw [show ((((([] : List Int), ([] : List Int), (420 : Int)) : List Int × List Int × Int).2.2 != 420)) = false by rfl]
  unfold g_law42_sane_j1
  refine WP.iteF ?_
  refine WP.bdW ((same_eq (by simp)).mono fun z hz => ?_)
  rw [hz.2 rfl]
  refine WP.iteT ?_
  refine WP.bdW ((sameInts_eq (by simp)).mono fun z hz => ?_)
  rw [hz.2 rfl]
  refine WP.iteT ?_
  refine WP.bd (r := 0) ((pcheck_eq (by simp)).trans (by rfl)) ?_
  refine WP.iteE (fun _ => ?_) (fun h => absurd rfl h)
  refine WP.bd (r := 420) ((pcheck_eq (by simp)).trans (by rfl)) ?_
  refine WP.iteE (fun _ => ?_) (fun h => absurd rfl h)
  refine WP.bd (r := 420) ((pcheck_eq (by simp)).trans (by rfl)) ?_
  exact WP.ret rfl
/-! ### the statements -/
theorem few_one {t : Tab} {s : Sch} (h : Few [t] [s]) : t.l.length ≤ 30 ∧ s.p.length ≤ 30 := ⟨h.2.2.1 t (by simp), h.2.2.2 s (by simp)⟩
end Go.Proofs.YtoiiblkncbnlaaaGreat

/-
  Chapter 42: all payments together are the prizes. Conditions: those of each theorem.
-/
set_option linter.unusedVariables false
set_option linter.unusedSimpArgs false
namespace Go.Proofs.YtoiiblkncbnlaaaGreat
open Go.DL
set_option maxHeartbeats 4000000
theorem moneyCheck_eq (n : Int) : g_money_Check n = some (if -1125899906842624 ≤ n ∧ n ≤ 1125899906842624 then 0 else 50) := by
  refine WP.eq ?_
  unfold g_money_Check g_money_Check_j1
  refine WP.iteD (fun h => ?_) (fun h => ?_)
  · refine WP.iteT (WP.ret ?_)
    rw [if_neg (show ¬ (-1125899906842624 ≤ n ∧ n ≤ 1125899906842624) by omega)]
  · refine WP.iteD (fun h2 => WP.ret ?_) (fun h2 => WP.ret ?_)
    · rw [if_neg (show ¬ (-1125899906842624 ≤ n ∧ n ≤ 1125899906842624) by omega)]
    · rw [if_pos (show -1125899906842624 ≤ n ∧ n ≤ 1125899906842624 by omega)]
theorem sum_eq {l : List Int} (h : ∀ x ∈ l, 0 ≤ x) (hs : sumL 0 l ≤ 1125899906842624) (hl : l.length ≤ 1000) : g_money_Sum l = some (sumL 0 l, 0) := by
  refine WP.eq ?_
  unfold g_money_Sum
  refine WP.loop (fun v => v.2 ≤ l.length ∧ v.1 = sumL 0 (l.take v.2)) (fun v => l.length - v.2) ?_ ⟨by simp, by simp [sumL]⟩
  rintro ⟨n, k⟩ ⟨hk, iv⟩
  dsimp only at hk iv ⊢
  simp only [g_money_Sum_l2]
  refine WP.iteD (fun hlt => ?_) (fun hlt => ?_)
  · obtain ⟨x, hx⟩ : ∃ x, l[k]? = some x := ⟨_, List.getElem?_eq_getElem (by omega)⟩
    rw [gn_some hx]
    have hx0 := h x (List.mem_of_getElem? hx)
    have e : n + x = sumL 0 (l.take (k + 1)) := by rw [take_snoc hx, sumL_snoc, iv]
    have hb := (sumL_take_le h (k + 1)).1
    have hn : 0 ≤ n := by rw [iv]; exact sumL_nonneg fun y hy => h y (List.mem_of_mem_take hy)
    refine WP.bd (moneyCheck_eq x) ?_
    rw [if_pos (show -1125899906842624 ≤ x ∧ x ≤ 1125899906842624 by omega)]
    refine WP.iteN (fun h => absurd rfl h) (fun _ => ?_)
    refine WP.ckI (by omega) ?_
    refine WP.bd (moneyCheck_eq (n + x)) ?_
    rw [if_pos (show -1125899906842624 ≤ n + x ∧ n + x ≤ 1125899906842624 by omega)]
    unfold g_money_Sum_j3
    refine WP.iteN (fun h => absurd rfl h) (fun _ => ?_)
    (repeat' (first | with_reducible (first | refine WP.iteT ?_ | refine WP.iteF ?_ | refine WP.iteNb ?_ | refine WP.iteD (fun _ => ?_) (fun _ => ?_) | refine WP.iteE (fun _ => ?_) (fun _ => ?_) | refine WP.iteN (fun _ => ?_) (fun _ => ?_) | refine WP.iteB (fun _ => ?_) (fun _ => ?_)) | (with_reducible refine WP.ckI ?_ ?_; · omega) | (with_reducible refine WP.gn ?_ (fun _ _ => ?_); · omega) | (with_reducible refine WP.gt ?_ (fun _ _ => ?_); · omega) | with_reducible (first | refine WP.up ?_ | refine WP.letO ?_ | refine WP.ret ?_)))
    exact ⟨⟨by dsimp only; omega, e⟩, by dsimp only; omega⟩
  · rw [List.take_of_length_le (by omega)] at iv
    unfold g_money_Sum_j1
    (repeat' (first | with_reducible (first | refine WP.iteT ?_ | refine WP.iteF ?_ | refine WP.iteNb ?_ | refine WP.iteD (fun _ => ?_) (fun _ => ?_) | refine WP.iteE (fun _ => ?_) (fun _ => ?_) | refine WP.iteN (fun _ => ?_) (fun _ => ?_) | refine WP.iteB (fun _ => ?_) (fun _ => ?_)) | (with_reducible refine WP.ckI ?_ ?_; · omega) | (with_reducible refine WP.gn ?_ (fun _ _ => ?_); · omega) | (with_reducible refine WP.gt ?_ (fun _ _ => ?_); · omega) | with_reducible (first | refine WP.up ?_ | refine WP.letO ?_ | refine WP.ret ?_)))
    show (n, (0 : Int)) = _
    rw [iv]
/-! ### what is paid, in all -/
theorem share_sum : ∀ (ps : List Place) (ns : List Int), ps.length = ns.length → (∀ x ∈ ns, 0 ≤ x) → sumL 0 ((share ps ns).map (·.a)) = sumL 0 ns
  | [], [], _, _ => rfl
  | [], _ :: _, h, _ => by simp at h
  | _ :: _, [], h, _ => by simp at h
  | p :: ps, n :: ns, h, h0 => by
    have ih := share_sum ps ns (by simpa using h) fun x hx => h0 x (by simp [hx])
    have hn := h0 n (by simp)
    have e : ∀ (y : Int) (l : List Int), sumL 0 (y :: l) = sumL 0 l + y := fun y l => by simp only [sumL]; exact sumL_add l 0 y
    rw [share, e]
    split
    · rw [List.map_cons, e, ih]
    · rw [ih]; omega
theorem payG_sum {rest : List Int} (h : ∀ x ∈ rest, 0 ≤ x) : ∀ (gs : List (List Place)), (∀ g ∈ gs, g ≠ []) → sumL 0 ((payG rest gs).map (·.a)) = sumL 0 (rest.take gs.flatten.length) := by
  intro gs
  induction gs generalizing rest with
  | nil => intro _; simp [payG, sumL]
  | cons g gs ih =>
    intro hne
    have h1 : 1 ≤ g.length := by
      have := hne g (by simp)
      cases g with | nil => exact absurd rfl this | cons _ _ => simp
    have hs : 0 ≤ sumL 0 (rest.take g.length) := sumL_nonneg fun y hy => h y (List.mem_of_mem_take hy)
    rw [payG, List.map_append, sumL_append, share_sum _ _ (eqL_length _ _).symm fun x hx => (eqL_bounds hs hx).1, eqL_sum hs h1, ih (fun x hx => h x (List.mem_of_mem_drop hx)) fun x hx => hne x (by simp [hx]), ← sumL_append, List.flatten_cons, List.length_append, List.take_add]
theorem sumL_perm {l d : List Int} (h : l.Perm d) : sumL 0 l = sumL 0 d := by
  have e : ∀ (y : Int) (l : List Int), sumL 0 (y :: l) = sumL 0 l + y := fun y l => by simp only [sumL]; exact sumL_add l 0 y
  induction h with
  | nil => rfl
  | cons x _ ih => rw [e, e, ih]
  | swap x y l => rw [e, e, e, e]; omega
  | trans _ _ ih1 ih2 => rw [ih1, ih2]
theorem payU_sum {t : Tab} {s : Sch} (h : fitS t s = 0) : sumL 0 ((srtP (payU t s)).map (·.a)) = sumL 0 ((partL s.p).take t.l.length) := by
  obtain ⟨hp, _, _⟩ := fit_prizes h
  rw [sumL_perm ((srtP_perm (payU t s)).map _)]
  unfold payU
  rw [payG_sum (partL_nonneg hp) _ (grp_flat t.l).2, (grp_flat t.l).1]
theorem share_pos : ∀ (ps : List Place) (ns : List Int), ∀ p ∈ share ps ns, 0 < p.a
  | [], _, p, h => by simp [share] at h
  | _ :: _, [], p, h => by simp [share] at h
  | q :: ps, n :: ns, p, h => by
    rw [share] at h
    split at h
    · rename_i hn
      rcases List.mem_cons.1 h with rfl | h
      · exact hn
      · exact share_pos ps ns p h
    · exact share_pos ps ns p h
theorem payG_pos : ∀ (gs : List (List Place)) (rest : List Int), ∀ p ∈ payG rest gs, 0 < p.a
  | [], _, p, h => by simp [payG] at h
  | g :: gs, rest, p, h => by
    rw [payG, List.mem_append] at h
    rcases h with h | h
    · exact share_pos _ _ p h
    · exact payG_pos gs _ p h
theorem srtP_lt {t : Tab} {s : Sch} (h : fitS t s = 0) : (srtP (payU t s)).Pairwise fun p q => p.c < q.c := by
  have hn : ((srtP (payU t s)).map (·.c)).Nodup := ((srtP_perm (payU t s)).map _).nodup_iff.2 (payU_nodup (fitS_ok h).1)
  have h2 : (srtP (payU t s)).Pairwise fun p q => p.c ≠ q.c := List.pairwise_map.1 hn
  exact ((srtP_sorted (payU t s)).and h2).imp fun h => by omega
/-- All ranks' parts together. -/
theorem part_beyond {ps : List Prize} {n : Nat} (h : ∀ p ∈ ps, p.t ≤ (n : Int)) : ∀ x ∈ (partL ps).drop n, x = 0 := by
  intro x hx
  obtain ⟨i, hi, hxi⟩ := List.mem_iff_getElem.1 hx
  rw [List.getElem_drop] at hxi
  have hi2 : n + i < 24 := by
    rw [List.length_drop] at hi
    simp [partL] at hi; omega
  have e := partL_get ps hi2
  rw [List.getElem?_eq_getElem (by simp [partL]; omega)] at e
  rw [← hxi, Option.some.inj e]
  refine part_none fun p hp hr => ?_
  have := h p hp
  omega
theorem sumL_zero {l : List Int} (h : ∀ x ∈ l, x = 0) : sumL 0 l = 0 := by
  induction l with
  | nil => rfl
  | cons y l ih =>
    simp only [sumL]
    rw [h y (by simp)]
    exact ih fun x hx => h x (by simp [hx])
theorem part_within {ps : List Prize} {n : Nat} (hp : prOK 0 ps = true) (h : ∀ p ∈ ps, p.t ≤ (n : Int)) : sumL 0 ((partL ps).take n) = sumA ps := by
  have e := sumL_append ((partL ps).take n) ((partL ps).drop n)
  rw [List.take_append_drop, sumL_zero (part_beyond h), partL_sum (Int.le_refl 0) hp] at e
  omega
section
variable {t : Tab} {s : Sch}
/-- The parts of the ranks and the two sums. -/
theorem law_sum_j2 {b : Bool} (h : fitS t s = 0) (hb : b = true → ∀ p ∈ s.p, p.t ≤ (t.l.length : Int)) :
    WP (g_law42_PrizesSum_j2 t s ((srtP (payU t s)).map (·.a)) b (s.p.map (·.a))) (fun z => z = true) := by
  obtain ⟨hp, hs, hsl⟩ := fit_prizes h
  have h24 := fit_ranges h
  have hle : ∀ m, sumL 0 ((partL s.p).take m) ≤ 1125899906842624 := fun m => by have := part_total hp hs 0 m; simpa using this
  have hge : ∀ m, 0 ≤ sumL 0 ((partL s.p).take m) := fun m => sumL_nonneg fun y hy => partL_nonneg hp y (List.mem_of_mem_take hy)
  unfold g_law42_PrizesSum_j2
  refine WP.loop (fun v => 1 ≤ v.2 ∧ v.2 ≤ t.l.length + 1 ∧ v.1 = sumL 0 ((partL s.p).take (v.2 - 1))) (fun v => t.l.length + 1 - v.2) ?_ ⟨by simp, by simp, by simp [sumL]⟩
  rintro ⟨n, r⟩ ⟨hr, hr2, iv⟩
  dsimp only at hr hr2 iv ⊢
  simp only [g_law42_PrizesSum_l4]
  refine WP.iteD (fun hlt => ?_) (fun hlt => ?_)
  · refine WP.bd (rpart_eq hp (by omega) (by omega) (by omega)) ?_
    have hx := partL_get s.p (i := r - 1) (by omega)
    rw [show r - 1 + 1 = r by omega] at hx
    have e : n + part s.p ((r : Nat) : Int) = sumL 0 ((partL s.p).take r) := by
      have h1 := take_snoc hx
      rw [show r - 1 + 1 = r by omega] at h1
      rw [h1, sumL_snoc, iv]
    have := hle r
    have := hge r
    (repeat' (first | with_reducible (first | refine WP.iteT ?_ | refine WP.iteF ?_ | refine WP.iteNb ?_ | refine WP.iteD (fun _ => ?_) (fun _ => ?_) | refine WP.iteE (fun _ => ?_) (fun _ => ?_) | refine WP.iteN (fun _ => ?_) (fun _ => ?_) | refine WP.iteB (fun _ => ?_) (fun _ => ?_)) | (with_reducible refine WP.ckI ?_ ?_; · omega) | (with_reducible refine WP.gn ?_ (fun _ _ => ?_); · omega) | (with_reducible refine WP.gt ?_ (fun _ _ => ?_); · omega) | with_reducible (first | refine WP.up ?_ | refine WP.letO ?_ | refine WP.ret ?_)))
    exact ⟨⟨by dsimp only; omega, by dsimp only; omega, by dsimp only; rw [Nat.add_sub_cancel]; exact e⟩, by dsimp only; omega⟩
  · have hrn : r - 1 = t.l.length := by omega
    rw [hrn] at iv
    refine WP.up ?_
    unfold g_law42_PrizesSum_j3
    have hsum := payU_sum h
    have hpl : (srtP (payU t s)).length ≤ 30 := by
      have h3 := (srtP_perm (payU t s)).length_eq
      have h4 := payU_len t s
      omega
    refine WP.bd (sum_eq (fun x hx => ?_) ?_ ?_) ?_
    · obtain ⟨p, hp2, rfl⟩ := List.mem_map.1 hx
      have := payG_pos _ _ p ((srtP_perm (payU t s)).mem_iff.1 hp2)
      omega
    · rw [hsum]; exact hle _
    · rw [List.length_map]; omega
    have ha : sumL 0 (s.p.map (·.a)) = sumA s.p := rfl
    refine WP.bd (sum_eq (fun x hx => ?_) ?_ ?_) ?_
    · obtain ⟨p, hp2, rfl⟩ := List.mem_map.1 hx
      have := prOK_mem hp p hp2
      omega
    · rw [ha]; exact hs
    · rw [List.length_map]; omega
    refine WP.iteE (fun _ => ?_) (fun h => absurd rfl h)
    refine WP.iteE (fun _ => ?_) (fun h => absurd rfl h)
    refine WP.iteE (fun _ => ?_) (fun h => absurd (by dsimp only; rw [hsum, iv]) h)
    cases b
    · exact WP.iteNb (WP.iteF (WP.ret rfl))
    · refine WP.iteNb (WP.iteT (WP.ret ?_))
      show (_ == _) = true
      rw [beq_iff_eq]
      dsimp only
      rw [hsum, ha, part_within hp (hb rfl)]
theorem law_sum_j1 (h : fitS t s = 0) : WP (g_law42_PrizesSum_j1 s t ((srtP (payU t s)).map (·.a))) (fun z => z = true) := by
  obtain ⟨hp, hs, hsl⟩ := fit_prizes h
  unfold g_law42_PrizesSum_j1
  refine WP.loop (fun v => v.2.1 ≤ s.p.length ∧ v.2.2 = (s.p.take v.2.1).map (·.a) ∧ (v.1 = true → ∀ p ∈ s.p.take v.2.1, p.t ≤ (t.l.length : Int))) (fun v => s.p.length - v.2.1) ?_ ⟨by simp, by simp, by simp⟩
  rintro ⟨b, k, o⟩ ⟨hk, iv, ib⟩
  dsimp only at hk iv ib ⊢
  have ho : o.length = k := by rw [iv]; simp; omega
  simp only [g_law42_PrizesSum_l5]
  refine WP.iteD (fun hlt => ?_) (fun hlt => ?_)
  · obtain ⟨x, hx⟩ : ∃ x, s.p[k]? = some x := ⟨_, List.getElem?_eq_getElem (by omega)⟩
    rw [gn_some hx]
    refine WP.ck (by simp only [List.length_cons, List.length_nil]; omega) ?_
    have hj : ∀ d : Bool, (d = true → b = true ∧ x.t ≤ (t.l.length : Int)) → WP (g_law42_PrizesSum_j6 k t s ((srtP (payU t s)).map (·.a)) d (o ++ [x.a])) (Rnd (fun v : Bool × Nat × List Int => v.2.1 ≤ s.p.length ∧ v.2.2 = (s.p.take v.2.1).map (·.a) ∧ (v.1 = true → ∀ p ∈ s.p.take v.2.1, p.t ≤ (t.l.length : Int))) (fun v => s.p.length - v.2.1) (s.p.length - k) fun z => z = true) := fun d hd => by
      unfold g_law42_PrizesSum_j6
      (repeat' (first | with_reducible (first | refine WP.iteT ?_ | refine WP.iteF ?_ | refine WP.iteNb ?_ | refine WP.iteD (fun _ => ?_) (fun _ => ?_) | refine WP.iteE (fun _ => ?_) (fun _ => ?_) | refine WP.iteN (fun _ => ?_) (fun _ => ?_) | refine WP.iteB (fun _ => ?_) (fun _ => ?_)) | (with_reducible refine WP.ckI ?_ ?_; · omega) | (with_reducible refine WP.gn ?_ (fun _ _ => ?_); · omega) | (with_reducible refine WP.gt ?_ (fun _ _ => ?_); · omega) | with_reducible (first | refine WP.up ?_ | refine WP.letO ?_ | refine WP.ret ?_)))
      refine ⟨⟨by dsimp only; omega, by dsimp only; rw [take_snoc hx, List.map_append, iv]; rfl, fun h1 p hp2 => ?_⟩, by dsimp only; omega⟩
      obtain ⟨h3, h4⟩ := hd h1
      dsimp only at hp2
      rw [take_snoc hx, List.mem_append] at hp2
      rcases hp2 with hp2 | hp2
      · exact ib h3 p hp2
      · simp only [List.mem_singleton] at hp2; subst hp2; exact h4
    cases b
    · exact WP.iteF (hj false fun h => by cases h)
    · exact WP.iteT (hj _ fun h => ⟨rfl, of_decide_eq_true h⟩)
  · rw [List.take_of_length_le (by omega)] at iv ib
    refine WP.up ?_
    rw [iv]
    exact law_sum_j2 h ib
end
theorem sumLaw_eq (t : Tab) (s : Sch) : g_law42_PrizesSum t s = some true := by
  refine WP.eq ?_
  unfold g_law42_PrizesSum
  refine WP.bd sane_eq ?_
  refine WP.iteNb (WP.iteT ?_)
  refine WP.bd (r := ([t], [s])) rfl ?_
  refine WP.bdW ((few_eq [t] [s]).mono fun z hz => ?_)
  cases z
  · exact WP.iteNb (WP.iteF (WP.ret rfl))
  obtain ⟨h1, h2⟩ := few_one (hz.1 rfl)
  refine WP.iteNb (WP.iteT ?_)
  refine WP.bd (gprizes_eq (by omega) (by omega)) ?_
  refine WP.iteN (fun h => ?_) (fun h => ?_)
  · refine WP.ret ?_
    dsimp only
    rw [if_neg h]; rfl
  · dsimp only at h
    rw [if_pos h]
    have hpl : (srtP (payU t s)).length ≤ 30 := by
      have h3 := (srtP_perm (payU t s)).length_eq
      have h4 := payU_len t s
      omega
    have hlt := srtP_lt h
    refine WP.loop (fun v => v.1 ≤ (srtP (payU t s)).length ∧ v.2 = ((srtP (payU t s)).take v.1).map (·.a)) (fun v => (srtP (payU t s)).length - v.1) ?_ ⟨by simp, by simp⟩
    rintro ⟨k, o⟩ ⟨hk, iv⟩
    dsimp only at hk iv ⊢
    have ho : o.length = k := by rw [iv]; simp; omega
    simp only [g_law42_PrizesSum_l7]
    refine WP.iteD (fun hlt2 => ?_) (fun hlt2 => ?_)
    · obtain ⟨x, hx⟩ : ∃ x, (srtP (payU t s))[k]? = some x := ⟨_, List.getElem?_eq_getElem (by omega)⟩
      rw [gn_some hx]
      have hpos := payG_pos _ _ x ((srtP_perm (payU t s)).mem_iff.1 (List.mem_of_getElem? hx))
      refine WP.iteD (fun h3 => absurd h3 (by omega)) (fun _ => ?_)
      have hj : WP (g_law42_PrizesSum_j8 (srtP (payU t s), fitS t s) k o t s false) (Rnd (fun v : Nat × List Int => v.1 ≤ (srtP (payU t s)).length ∧ v.2 = ((srtP (payU t s)).take v.1).map (·.a)) (fun v => (srtP (payU t s)).length - v.1) ((srtP (payU t s)).length - k) fun z => z = true) := by
        unfold g_law42_PrizesSum_j8
        refine WP.iteF ?_
        rw [gn_some hx]
        refine WP.ck (by simp only [List.length_cons, List.length_nil]; omega) ?_
        (repeat' (first | with_reducible (first | refine WP.iteT ?_ | refine WP.iteF ?_ | refine WP.iteNb ?_ | refine WP.iteD (fun _ => ?_) (fun _ => ?_) | refine WP.iteE (fun _ => ?_) (fun _ => ?_) | refine WP.iteN (fun _ => ?_) (fun _ => ?_) | refine WP.iteB (fun _ => ?_) (fun _ => ?_)) | (with_reducible refine WP.ckI ?_ ?_; · omega) | (with_reducible refine WP.gn ?_ (fun _ _ => ?_); · omega) | (with_reducible refine WP.gt ?_ (fun _ _ => ?_); · omega) | with_reducible (first | refine WP.up ?_ | refine WP.letO ?_ | refine WP.ret ?_)))
        exact ⟨⟨by dsimp only; omega, by dsimp only; rw [take_snoc hx, List.map_append, iv]; rfl⟩, by dsimp only; omega⟩
      refine WP.iteD (fun h3 => ?_) (fun h3 => hj)
      refine WP.ckI (by omega) ?_
      obtain ⟨y, hy⟩ : ∃ y, (srtP (payU t s))[k - 1]? = some y := ⟨_, List.getElem?_eq_getElem (by omega)⟩
      rw [gt_some (x := y) (by rw [show (((k : Nat) : Int) - 1).toNat = k - 1 by omega]; exact hy) (by omega)]
      have hyx : y.c < x.c := by
        obtain ⟨a1, a2⟩ := List.getElem?_eq_some_iff.1 hx
        obtain ⟨b1, b2⟩ := List.getElem?_eq_some_iff.1 hy
        have := List.pairwise_iff_getElem.1 hlt (k - 1) k b1 a1 (by omega)
        rw [a2, b2] at this; exact this
      rw [show (decide (y.c ≥ x.c)) = false from decide_eq_false (by omega)]
      exact hj
    · rw [List.take_of_length_le (by omega)] at iv
      refine WP.up ?_
      rw [iv]
      exact law_sum_j1 h
end Go.Proofs.YtoiiblkncbnlaaaGreat

/-
  Go functions as partial functions, printed by auto.py: what each returns when its partial function has a value. Conditions: those of each theorem.
-/
namespace Go.Proofs.YtoiiblkncbnlaaaGreat
open Go.DL
set_option maxRecDepth 100000
set_option maxHeartbeats 4000000
set_option linter.unusedVariables false
set_option linter.unusedSimpArgs false
theorem g_law42_paid_ret {l_1 : List Pay} {club_2 : Int} {r : Int} (h : g_law42_paid l_1 club_2 = some r) : Ret Tryz.prog 22 [(.sl 2 (l_1.map encPay)), (I club_2)] (I r) := by
  refine Ret.of_T Tryz.func22 (by kernel_rfl) rfl ?_
  refine T_turn [] [0, 1] [] (mk 24 [(0, (dt (.sl 2 (l_1.map encPay)))), (1, (di club_2))] []) (by kernel_rfl) ?_
  refine T_reg [] [0, 1] [] (mk 24 [(0, (dt (.sl 2 (l_1.map encPay)))), (1, (di club_2))] []) _ (by kernel_rfl) (z2 zt) ?_
  refine T_seqJ (α := Unit) (fun (_ : Unit) => (mk 24 [] [])) (fun (_ : Unit) => g_law42_paid_j1 = some r) (fun v h => ?_) ?_
  refine T_reg [] [4] [] (mk 24 [(4, (di 0))] []) _ (by kernel_rfl) (z2 zt) ?_
  refine T_ret ?_
  obtain rfl := some_inv h
  exact ret_here [(di 0)] (by kernel_rfl) (.inl rfl)
  refine T_reg [] [0, 1, 5] [] (mk 24 [(0, (dt (.sl 2 (l_1.map encPay)))), (1, (di club_2)), (5, (di 0))] []) _ (by kernel_rfl) (z2 zt) ?_
  refine T_block ?_
  refine T_arr [] [0, 1, 5] [] [] _ (by kernel_rfl) (T_loopO (σ := Nat) (fun (i_3 : Nat) => (mk 24 [(0, (dt (.sl 2 (l_1.map encPay)))), (1, (di club_2)), (5, (di ((i_3 : Nat) : Int)))] [])) (g_law42_paid_l2 l_1 club_2) 0 h (fun i_3 y1 hy1 h => ?_))
  refine T_seq ?_
  refine T_reg [zn, zn, (zd (I ((l_1.length : Nat) : Int)))] [0, 1, 5, 9] [] (mk 24 [(0, (dt (.sl 2 (l_1.map encPay)))), (1, (di club_2)), (5, (di ((i_3 : Nat) : Int))), (9, (db (decide (((i_3 : Nat) : Int) < ((l_1.length : Nat) : Int)))))] []) _ (by kernel_rfl) (z5 (zc (len_s encPay l_1) (z2 zt))) ?_
  refine T_cond (decide (((i_3 : Nat) : Int) < ((l_1.length : Nat) : Int))) (by kernel_rfl) (fun b5 => ?_) (fun b5 => ?_)
  replace h := ite_t b5 h
  refine T_skip ?_
  refine T_seq ?_
  refine T_block ?_
  obtain ⟨x_6, e7, e8, e9, h⟩ := gn_inv encPay h
  refine T_reg [zn, zn, (zd (encPay x_6))] [0, 1, 5, 18] [] (mk 24 [(0, (dt (.sl 2 (l_1.map encPay)))), (1, (di club_2)), (5, (di ((i_3 : Nat) : Int))), (18, (db (x_6.c == club_2)))] []) _ (by kernel_rfl) (z5 (zc e7 (z8 zt))) ?_
  refine T_cond (x_6.c == club_2) (by kernel_rfl) (fun b10 => ?_) (fun b10 => ?_)
  replace h := ite_t b10 h
  refine T_reg [zn, zn, (zd (encPay x_6))] [4] [] (mk 24 [(4, (di x_6.a))] []) _ (by kernel_rfl) (z5 (zc e7 (z6 zt))) ?_
  refine T_ret ?_
  replace h := up_inv h hy1
  obtain rfl := some_inv h
  exact ret_here [(di x_6.a)] (by kernel_rfl) (.inl rfl)
  replace h := ite_f b10 h
  refine T_skip ?_
  obtain ⟨c11, h⟩ := ckI_inv h
  exact T_regJ [zn, (zd (I ((i_3 + 1 : Nat) : Int)))] [] [0, 1, 5] [] [] _ _ (by kernel_rfl) (z3 (zc c11 (z2 zt))) (fun s hs => Exists.intro (i_3 + 1) (And.intro h hs))
  replace h := ite_f b5 h
  refine T_exit ?_
  replace h := up_inv h hy1
  exact Exists.intro () (And.intro h (arr [] [] [] [] (by kernel_rfl)))

theorem g_law42_PrizesTied_ret {t_1 : Tab} {s_2 : Sch} {r : Bool} (h : g_law42_PrizesTied t_1 s_2 = some r) : Ret Tryz.prog 6 [(encTab t_1), (encSch s_2)] (B (r)) := by
  refine Ret.of_T Tryz.func6 (by kernel_rfl) rfl ?_
  refine T_turn [] [0, 1] [] (mk 89 [(0, (.agg (qTab t_1))), (1, (.agg (qSch s_2)))] []) (by kernel_rfl) ?_
  refine T_reg [] [2, 3] [] (mk 89 [(2, (rf 2 0)), (3, (rf 3 0))] [(3, (.var (qSch s_2))), (2, (.var (qTab t_1)))]) _ (by kernel_rfl) (z6 zt) ?_
  refine T_seq ?_
  obtain ⟨r_3, e4, h⟩ := bd_inv h
  refine T_reg [(zd (B (r_3)))] [2, 3, 12] [] (mk 89 [(2, (rf 2 0)), (3, (rf 3 0)), (12, (db (!(r_3))))] [(3, (.var (qSch s_2))), (2, (.var (qTab t_1)))]) _ (by kernel_rfl) (z1 (zc (g_law42_sane_ret e4) (z2 zt))) ?_
  refine T_cond (!(r_3)) (by kernel_rfl) (fun b5 => ?_) (fun b5 => ?_)
  replace h := ite_t b5 h
  refine T_reg [] [4] [3, 2] (mk 89 [(4, (db false))] []) _ (by kernel_rfl) (z2 zt) ?_
  refine T_ret ?_
  obtain rfl := some_inv h
  exact ret_here [(db false)] (by kernel_rfl) (.inl rfl)
  replace h := ite_f b5 h
  refine T_skip ?_
  refine T_seq ?_
  obtain ⟨r_6, e7, h⟩ := bd_inv h
  obtain ⟨r_8, e9, h⟩ := bd_inv h
  refine T_reg [zn, zn, (zd (.tup [(.sl 3 (r_6.1.map encTab)), (.sl 6 (r_6.2.map encSch))])), zn, zn, (zd (B (r_8)))] [2, 3, 19] [] (mk 89 [(2, (rf 2 0)), (3, (rf 3 0)), (19, (db (!(r_8))))] [(3, (.var (qSch s_2))), (2, (.var (qTab t_1)))]) _ (by kernel_rfl) (z5 (zc (g_law42_one_ret e7) (z5 (zc (g_ref42_Few_ret e9) (z2 zt))))) ?_
  refine T_cond (!(r_8)) (by kernel_rfl) (fun b10 => ?_) (fun b10 => ?_)
  replace h := ite_t b10 h
  refine T_reg [] [4] [3, 2] (mk 89 [(4, (db true))] []) _ (by kernel_rfl) (z2 zt) ?_
  refine T_ret ?_
  obtain rfl := some_inv h
  exact ret_here [(db true)] (by kernel_rfl) (.inl rfl)
  replace h := ite_f b10 h
  refine T_skip ?_
  obtain ⟨r_11, e12, h⟩ := bd_inv h
  refine T_reg [zn, zn, (zd (.tup [(.sl 2 (r_11.1.map encPay)), (I r_11.2)]))] [2, 5, 6] [3] (mk 89 [(2, (rf 2 0)), (5, (dt (.sl 2 (r_11.1.map encPay)))), (6, (di r_11.2))] [(2, (.var (qTab t_1)))]) _ (by kernel_rfl) (z5 (zc (g_prizes_Prizes_ret e12) (z8 (z2 zt)))) ?_
  refine T_seq ?_
  refine T_reg [] [2, 5, 27] [] (mk 89 [(2, (rf 2 0)), (5, (dt (.sl 2 (r_11.1.map encPay)))), (27, (db (r_11.2 != 0)))] [(2, (.var (qTab t_1)))]) _ (by kernel_rfl) (z4 zt) ?_
  refine T_cond (r_11.2 != 0) (by kernel_rfl) (fun b13 => ?_) (fun b13 => ?_)
  replace h := ite_t b13 h
  refine T_reg [] [4] [2] (mk 89 [(4, (db true))] []) _ (by kernel_rfl) (z2 zt) ?_
  refine T_ret ?_
  obtain rfl := some_inv h
  exact ret_here [(db true)] (by kernel_rfl) (.inl rfl)
  replace h := ite_f b13 h
  refine T_skip ?_
  refine T_reg [] [2, 5, 7] [] (mk 89 [(2, (rf 2 0)), (5, (dt (.sl 2 (r_11.1.map encPay)))), (7, (di 0))] [(2, (.var (qTab t_1)))]) _ (by kernel_rfl) (z2 zt) ?_
  refine T_seqJ (α := Int) (fun (many_14 : Int) => (mk 89 [(5, (dt (.sl 2 (r_11.1.map encPay)))), (7, (di many_14))] [])) (fun (many_14 : Int) => g_law42_PrizesTied_j1 r_11 many_14 = some r) (fun many_14 h => ?_) ?_
  refine T_reg [zn, zn, (zd (I ((r_11.1.length : Nat) : Int)))] [4] [] (mk 89 [(4, (db (many_14 == ((r_11.1.length : Nat) : Int))))] []) _ (by kernel_rfl) (z5 (zc (len_s encPay r_11.1) (z4 zt))) ?_
  refine T_ret ?_
  obtain rfl := some_inv h
  exact ret_here [(db (many_14 == ((r_11.1.length : Nat) : Int)))] (by kernel_rfl) (.inl rfl)
  refine T_reg [] [2, 5, 7, 8] [] (mk 89 [(2, (rf 2 0)), (5, (dt (.sl 2 (r_11.1.map encPay)))), (7, (di 0)), (8, (di 0))] [(2, (.var (qTab t_1)))]) _ (by kernel_rfl) (z2 zt) ?_
  refine T_block ?_
  refine T_arr [] [2, 5, 7, 8] [] [2] _ (by kernel_rfl) (T_loopO (σ := Int × Nat) (fun ((many_15, i_16) : Int × Nat) => (mk 89 [(2, (rf 2 0)), (5, (dt (.sl 2 (r_11.1.map encPay)))), (7, (di many_15)), (8, (di ((i_16 : Nat) : Int)))] [(2, (.var (qTab t_1)))])) (g_law42_PrizesTied_l2 t_1 r_11) (0, 0) h (fun v y1 hy1 h => ?_))
  obtain ⟨many_15, i_16⟩ := v
  refine T_seq ?_
  refine T_reg [zn, zn, zn, (zd (I ((t_1.l.length : Nat) : Int)))] [2, 5, 7, 8, 32] [] (mk 89 [(2, (rf 2 0)), (5, (dt (.sl 2 (r_11.1.map encPay)))), (7, (di many_15)), (8, (di ((i_16 : Nat) : Int))), (32, (db (decide (((i_16 : Nat) : Int) < ((t_1.l.length : Nat) : Int)))))] [(2, (.var (qTab t_1)))]) _ (by kernel_rfl) (z7 (zc (len_s encPlace t_1.l) (z2 zt))) ?_
  refine T_cond (decide (((i_16 : Nat) : Int) < ((t_1.l.length : Nat) : Int))) (by kernel_rfl) (fun b19 => ?_) (fun b19 => ?_)
  replace h := ite_t b19 h
  refine T_skip ?_
  refine T_seqJ (α := Int) (fun (many_20 : Int) => (mk 89 [(2, (rf 2 0)), (5, (dt (.sl 2 (r_11.1.map encPay)))), (7, (di many_20)), (8, (di ((i_16 : Nat) : Int)))] [(2, (.var (qTab t_1)))])) (fun (many_20 : Int) => g_law42_PrizesTied_j3 i_16 r_11 t_1 many_20 = some y1) (fun many_20 h => ?_) ?_
  obtain ⟨c21, h⟩ := ckI_inv h
  exact T_regJ [zn, (zd (I ((i_16 + 1 : Nat) : Int)))] [] [2, 5, 7, 8] [] [2] _ _ (by kernel_rfl) (z3 (zc c21 (z2 zt))) (fun s hs => Exists.intro (many_20, i_16 + 1) (And.intro h hs))
  refine T_block ?_
  obtain ⟨x_22, e23, e24, e25, h⟩ := gn_inv encPlace h
  obtain ⟨r_26, e27, h⟩ := bd_inv h
  refine T_reg (hl 9 [(4, (zd (encPlace x_22))), (8, (zd (I r_26)))]) [2, 5, 7, 8, 9] [] (mk 89 [(2, (rf 2 0)), (5, (dt (.sl 2 (r_11.1.map encPay)))), (7, (di many_15)), (8, (di ((i_16 : Nat) : Int))), (9, (di r_26))] [(2, (.var (qTab t_1)))]) _ (by kernel_rfl) (z8 (z1 (zc e23 (z7 (zc (g_law42_paid_ret e27) (z2 zt)))))) ?_
  refine T_seqJ (α := Int) (fun (many_28 : Int) => (mk 89 [(2, (rf 2 0)), (5, (dt (.sl 2 (r_11.1.map encPay)))), (7, (di many_28)), (8, (di ((i_16 : Nat) : Int))), (9, (di r_26))] [(2, (.var (qTab t_1)))])) (fun (many_28 : Int) => g_law42_PrizesTied_j4 i_16 r_11 t_1 r_26 x_22 many_28 = some y1) (fun many_28 h => ?_) ?_
  refine T_seq ?_
  refine T_seqJ (α := Bool) (fun (v_29 : Bool) => (mk 89 [(2, (rf 2 0)), (5, (dt (.sl 2 (r_11.1.map encPay)))), (7, (di many_28)), (8, (di ((i_16 : Nat) : Int))), (9, (di r_26)), (65, (db (v_29)))] [(2, (.var (qTab t_1)))])) (fun (v_29 : Bool) => g_law42_PrizesTied_j5 i_16 r_11 t_1 many_28 r_26 v_29 = some y1) (fun v_29 h => ?_) ?_
  refine T_cond (v_29) (by kernel_rfl) (fun b30 => ?_) (fun b30 => ?_)
  replace h := ite_t b30 h
  refine T_exit ?_
  exact Exists.intro many_28 (And.intro h (arr [] [2, 5, 7, 8] [] [2] (by kernel_rfl)))
  replace h := ite_f b30 h
  refine T_skip ?_
  obtain ⟨c31, h⟩ := ckI_inv h
  obtain ⟨x_32, e33, e34, e35, h⟩ := gt_inv encPlace h
  obtain ⟨r_36, e37, h⟩ := bd_inv h
  refine T_reg (hl 10 [(4, (zd (I (((i_16 : Nat) : Int) - 1)))), (5, (zd (encPlace x_32))), (9, (zd (I r_36)))]) [2, 5, 7, 8, 9, 10] [] (mk 89 [(2, (rf 2 0)), (5, (dt (.sl 2 (r_11.1.map encPay)))), (7, (di many_28)), (8, (di ((i_16 : Nat) : Int))), (9, (di r_26)), (10, (di r_36))] [(2, (.var (qTab t_1)))]) _ (by kernel_rfl) (z8 (z1 (zc c31 (z1 (zc e33 (z7 (zc (g_law42_paid_ret e37) (z2 zt)))))))) ?_
  refine T_seqJ (α := Bool) (fun (v_38 : Bool) => (mk 89 [(2, (rf 2 0)), (5, (dt (.sl 2 (r_11.1.map encPay)))), (7, (di many_28)), (8, (di ((i_16 : Nat) : Int))), (84, (db (v_38)))] [(2, (.var (qTab t_1)))])) (fun (v_38 : Bool) => g_law42_PrizesTied_j6 i_16 r_11 t_1 many_28 v_38 = some y1) (fun v_38 h => ?_) ?_
  refine T_cond (v_38) (by kernel_rfl) (fun b39 => ?_) (fun b39 => ?_)
  replace h := ite_t b39 h
  refine T_reg [] [4] [2] (mk 89 [(4, (db false))] []) _ (by kernel_rfl) (z2 zt) ?_
  refine T_ret ?_
  replace h := up_inv h hy1
  obtain rfl := some_inv h
  exact ret_here [(db false)] (by kernel_rfl) (.inl rfl)
  replace h := ite_f b39 h
  refine T_skip ?_
  exact Exists.intro many_28 (And.intro h (arr [] [2, 5, 7, 8] [] [2] (by kernel_rfl)))
  rcases Bool.eq_false_or_eq_true (decide (r_36 < r_26)) with b40 | b40
  replace h := ite_t b40 h
  exact T_regJ [zn, zn, zn, zn, zg, zg, zg, zg, (zd (B true))] [] [2, 5, 7, 8, 84] [] [2] _ _ (by kernel_rfl) (z8 (zc (gd_tf b40) (zc (gd_tf b40) (zc (gd_tf b40) (zc (gd_tf b40) (z1 (zc b40 zt))))))) (fun s hs => Exists.intro true (And.intro h hs))
  replace h := ite_f b40 h
  obtain ⟨c41, h⟩ := ckI_inv h
  exact T_regJ (hl 9 [(6, (zd (I (r_26 + 1)))), (8, (zd (B false)))]) [] [2, 5, 7, 8, 84] [] [2] _ _ (by kernel_rfl) (z8 (zc (gd_ff b40) (z1 (zc (gd_ff b40) (z1 (zc (gd_ff b40) (zc c41 (zc (gd_ff b40) (z2 (zc b40 zt)))))))))) (fun s hs => Exists.intro (decide (r_36 > (r_26 + 1))) (And.intro h hs))
  rcases Bool.eq_false_or_eq_true (((i_16 : Nat) : Int) == 0) with b42 | b42
  replace h := ite_t b42 h
  exact T_regJD 18 [zn, zn, zn, zg, zg, zg, zg, zg, zg, zg, zg, zg, zg, zg, zg, zg, zg, (zd (B true))] [] [2, 5, 7, 8, 9, 65] [] [2] _ _ (by kernel_rfl) (by kernel_rfl) (by kernel_rfl) (zc (z6 (zc (gd_tf b42) (zc (gd_tf b42) (zc (gd_tf b42) (zc (gd_tf b42) (zc (gd_tf b42) (zc (gd_tf b42) (zc (gd_tf b42) (zc (gd_tf b42) (zc (gd_tf b42) (zc (gd_tf b42) (zc (gd_tf b42) (zc (gd_tf b42) (zc (gd_tf b42) (zc (gd_tf b42) (z1 (zc b42 zt))))))))))))))))) zt) (fun s hs => Exists.intro true (And.intro h hs))
  replace h := ite_f b42 h
  obtain ⟨c43, h⟩ := ckI_inv h
  obtain ⟨x_44, e45, e46, e47, h⟩ := gt_inv encPlace h
  exact T_regJD 18 (hl 18 [(6, (zd (encPlace x_22))), (12, (zd (I (((i_16 : Nat) : Int) - 1)))), (13, (zd (encPlace x_44))), (17, (zd (B false)))]) [] [2, 5, 7, 8, 9, 65] [] [2] _ _ (by kernel_rfl) (by kernel_rfl) (by kernel_rfl) (zc (z6 (zc (gd_ff b42) (z1 (zc (gd_ff b42) (z1 (zc (gd_ff b42) (z1 (zc (gd_ff b42) (zc e23 (zc (gd_ff b42) (z1 (zc (gd_ff b42) (z1 (zc (gd_ff b42) (z1 (zc (gd_ff b42) (z1 (zc (gd_ff b42) (z1 (zc (gd_ff b42) (zc c43 (zc (gd_ff b42) (zc e45 (zc (gd_ff b42) (z1 (zc (gd_ff b42) (z1 (zc (gd_ff b42) (z2 (zc b42 zt)))))))))))))))))))))))))))))) zt) (fun s hs => Exists.intro (x_22.k != x_44.k) (And.intro h hs))
  refine T_reg [] [2, 5, 7, 8, 9, 45] [] (mk 89 [(2, (rf 2 0)), (5, (dt (.sl 2 (r_11.1.map encPay)))), (7, (di many_15)), (8, (di ((i_16 : Nat) : Int))), (9, (di r_26)), (45, (db (decide (r_26 > 0))))] [(2, (.var (qTab t_1)))]) _ (by kernel_rfl) (z4 zt) ?_
  refine T_cond (decide (r_26 > 0)) (by kernel_rfl) (fun b48 => ?_) (fun b48 => ?_)
  replace h := ite_t b48 h
  obtain ⟨c49, h⟩ := ckI_inv h
  exact T_regJ [zn, (zd (I (many_15 + 1)))] [] [2, 5, 7, 8, 9] [] [2] _ _ (by kernel_rfl) (z3 (zc c49 (z2 zt))) (fun s hs => Exists.intro (many_15 + 1) (And.intro h hs))
  replace h := ite_f b48 h
  refine T_skip ?_
  exact Exists.intro many_15 (And.intro h (arr [] [2, 5, 7, 8, 9] [] [2] (by kernel_rfl)))
  replace h := ite_f b19 h
  refine T_exit ?_
  replace h := up_inv h hy1
  exact Exists.intro many_15 (And.intro h (arr [] [5, 7] [2] [] (by kernel_rfl)))

theorem g_law42_index_ret {t_1 : Tab} {club_2 : Int} {r : Int} (h : g_law42_index t_1 club_2 = some r) : Ret Tryz.prog 23 [(encTab t_1), (I club_2)] (I r) := by
  refine Ret.of_T Tryz.func23 (by kernel_rfl) rfl ?_
  refine T_turn [] [0, 1] [] (mk 23 [(0, (.agg (qTab t_1))), (1, (di club_2))] []) (by kernel_rfl) ?_
  refine T_reg [] [1, 2] [] (mk 23 [(1, (di club_2)), (2, (rf 2 0))] [(2, (.var (qTab t_1)))]) _ (by kernel_rfl) (z4 zt) ?_
  refine T_seqJ (α := Unit) (fun (_ : Unit) => (mk 23 [] [])) (fun (_ : Unit) => g_law42_index_j1 = some r) (fun v h => ?_) ?_
  refine T_reg [] [4] [] (mk 23 [(4, (di (-1)))] []) _ (by kernel_rfl) (z2 zt) ?_
  refine T_ret ?_
  obtain rfl := some_inv h
  exact ret_here [(di (-1))] (by kernel_rfl) (.inl rfl)
  refine T_reg [] [1, 2, 5] [] (mk 23 [(1, (di club_2)), (2, (rf 2 0)), (5, (di 0))] [(2, (.var (qTab t_1)))]) _ (by kernel_rfl) (z2 zt) ?_
  refine T_block ?_
  refine T_arr [] [1, 2, 5] [] [2] _ (by kernel_rfl) (T_loopO (σ := Nat) (fun (i_3 : Nat) => (mk 23 [(1, (di club_2)), (2, (rf 2 0)), (5, (di ((i_3 : Nat) : Int)))] [(2, (.var (qTab t_1)))])) (g_law42_index_l2 t_1 club_2) 0 h (fun i_3 y1 hy1 h => ?_))
  refine T_seq ?_
  refine T_reg [zn, zn, zn, (zd (I ((t_1.l.length : Nat) : Int)))] [1, 2, 5, 10] [] (mk 23 [(1, (di club_2)), (2, (rf 2 0)), (5, (di ((i_3 : Nat) : Int))), (10, (db (decide (((i_3 : Nat) : Int) < ((t_1.l.length : Nat) : Int)))))] [(2, (.var (qTab t_1)))]) _ (by kernel_rfl) (z7 (zc (len_s encPlace t_1.l) (z2 zt))) ?_
  refine T_cond (decide (((i_3 : Nat) : Int) < ((t_1.l.length : Nat) : Int))) (by kernel_rfl) (fun b5 => ?_) (fun b5 => ?_)
  replace h := ite_t b5 h
  refine T_skip ?_
  refine T_seq ?_
  refine T_block ?_
  obtain ⟨x_6, e7, e8, e9, h⟩ := gn_inv encPlace h
  refine T_reg [zn, zn, zn, (zd (encPlace x_6))] [1, 2, 5, 21] [] (mk 23 [(1, (di club_2)), (2, (rf 2 0)), (5, (di ((i_3 : Nat) : Int))), (21, (db (x_6.r.c == club_2)))] [(2, (.var (qTab t_1)))]) _ (by kernel_rfl) (z7 (zc e7 (z8 (z2 zt)))) ?_
  refine T_cond (x_6.r.c == club_2) (by kernel_rfl) (fun b10 => ?_) (fun b10 => ?_)
  replace h := ite_t b10 h
  refine T_reg [] [4] [2] (mk 23 [(4, (di ((i_3 : Nat) : Int)))] []) _ (by kernel_rfl) (z4 zt) ?_
  refine T_ret ?_
  replace h := up_inv h hy1
  obtain rfl := some_inv h
  exact ret_here [(di ((i_3 : Nat) : Int))] (by kernel_rfl) (.inl rfl)
  replace h := ite_f b10 h
  refine T_skip ?_
  obtain ⟨c11, h⟩ := ckI_inv h
  exact T_regJ [zn, (zd (I ((i_3 + 1 : Nat) : Int)))] [] [1, 2, 5] [] [2] _ _ (by kernel_rfl) (z3 (zc c11 (z2 zt))) (fun s hs => Exists.intro (i_3 + 1) (And.intro h hs))
  replace h := ite_f b5 h
  refine T_exit ?_
  replace h := up_inv h hy1
  exact Exists.intro () (And.intro h (arr [] [] [2] [] (by kernel_rfl)))

end Go.Proofs.YtoiiblkncbnlaaaGreat

/-
  Chapter 42: tied clubs share fairly. Conditions: those of each theorem.
-/
set_option linter.unusedVariables false
set_option linter.unusedSimpArgs false
namespace Go.Proofs.YtoiiblkncbnlaaaGreat
open Go.DL
set_option maxHeartbeats 4000000
/-- What each place gets. -/
def amtG (rest : List Int) : List (List Place) → List Int
  | [] => []
  | g :: gs => eqL (sumL 0 (rest.take g.length)) g.length ++ amtG (rest.drop g.length) gs
theorem amtG_len : ∀ (gs : List (List Place)) (rest : List Int), (amtG rest gs).length = gs.flatten.length
  | [], _ => rfl
  | g :: gs, rest => by rw [amtG, List.length_append, eqL_length, amtG_len gs, List.flatten_cons, List.length_append]
theorem share_append : ∀ (a : List Place) (x : List Int) (b : List Place) (y : List Int), a.length = x.length → share (a ++ b) (x ++ y) = share a x ++ share b y
  | [], [], b, y, _ => by cases b <;> simp [share]
  | [], _ :: _, _, _, h => by simp at h
  | _ :: _, [], _, _, h => by simp at h
  | p :: a, n :: x, b, y, h => by
    have ih := share_append a x b y (by simpa using h)
    rw [List.cons_append, List.cons_append, share, share, ih]
    split <;> rfl
theorem payG_share : ∀ (gs : List (List Place)) (rest : List Int), payG rest gs = share gs.flatten (amtG rest gs)
  | [], _ => by simp [payG, share]
  | g :: gs, rest => by rw [payG, amtG, List.flatten_cons, share_append _ _ _ _ (eqL_length _ _).symm, payG_share gs]
def amtL (t : Tab) (s : Sch) : List Int := amtG (partL s.p) (grp t.l)
theorem amtL_len (t : Tab) (s : Sch) : (amtL t s).length = t.l.length := by rw [amtL, amtG_len, (grp_flat t.l).1]
theorem payU_share (t : Tab) (s : Sch) : payU t s = share t.l (amtL t s) := by rw [payU, payG_share, (grp_flat t.l).1]; rfl
theorem amtG_nonneg : ∀ (gs : List (List Place)) (rest : List Int), (∀ x ∈ rest, 0 ≤ x) → ∀ x ∈ amtG rest gs, 0 ≤ x
  | [], _, _, x, h => by simp [amtG] at h
  | g :: gs, rest, h0, x, h => by
    rw [amtG, List.mem_append] at h
    rcases h with h | h
    · exact (eqL_bounds (sumL_nonneg fun y hy => h0 y (List.mem_of_mem_take hy)) h).1
    · exact amtG_nonneg gs _ (fun y hy => h0 y (List.mem_of_mem_drop hy)) x h
theorem amtG_le {B : Int} : ∀ (gs : List (List Place)) (rest : List Int), (∀ x ∈ rest, 0 ≤ x) → (∀ i m, sumL 0 ((rest.drop i).take m) ≤ B) → ∀ x ∈ amtG rest gs, x ≤ B
  | [], _, _, _, x, h => by simp [amtG] at h
  | g :: gs, rest, h0, hB, x, h => by
    rw [amtG, List.mem_append] at h
    rcases h with h | h
    · have h1 := (eqL_bounds (sumL_nonneg fun y hy => h0 y (List.mem_of_mem_take hy)) h).2
      have h2 := hB 0 g.length
      rw [List.drop_zero] at h2
      omega
    · exact amtG_le gs _ (fun y hy => h0 y (List.mem_of_mem_drop hy)) (fun i m => by rw [List.drop_drop]; exact hB _ m) x h
/-- Within a run all have its key; the next place has another one. -/
theorem run_key {k : Int} : ∀ {l : List Place} {i : Nat} {x : Place}, i < runLen k l → l[i]? = some x → x.k = k
  | [], i, x, h, _ => by simp [runLen] at h
  | p :: l, i, x, h, hx => by
    rw [runLen] at h
    split at h
    · rename_i hk
      cases i with
      | zero => simp at hx; subst hx; exact hk.symm
      | succ i => exact run_key (l := l) (i := i) (by omega) (by simpa using hx)
    · omega
theorem run_next {k : Int} : ∀ {l : List Place} {x : Place}, l[runLen k l]? = some x → x.k ≠ k
  | [], x, hx => by simp at hx
  | p :: l, x, hx => by
    rw [runLen] at hx
    split at hx
    · rw [List.getElem?_cons_succ] at hx
      exact run_next hx
    · rename_i hk
      simp at hx; subst hx
      exact fun h => hk h.symm
theorem tied_fair : ∀ (n : Nat) (l : List Place) (rest : List Int), l.length ≤ n → (∀ x ∈ rest, 0 ≤ x) → ∀ (i : Nat) (p q : Place) (a b : Int), l[i]? = some p → l[i + 1]? = some q → p.k = q.k → (amtG rest (grp l))[i]? = some b → (amtG rest (grp l))[i + 1]? = some a → a ≤ b ∧ b ≤ a + 1
  | 0, l, rest, hl, _, i, p, q, a, b, hp, _, _, _, _ => by
    have := (List.getElem?_eq_some_iff.1 hp).1
    omega
  | n + 1, l, rest, hl, h0, i, p, q, a, b, hp, hq, hk, hb, ha => by
    have hil := (List.getElem?_eq_some_iff.1 hq).1
    obtain ⟨x, hx⟩ : ∃ x, l[0]? = some x := ⟨_, List.getElem?_eq_getElem (by omega)⟩
    have hle := runLen_le x.k l
    have hpos : 1 ≤ runLen x.k l := by
      have h1 := drop_cons hx
      rw [List.drop_zero] at h1
      rw [h1, runLen, if_pos rfl]; omega
    have hg : ((l.take (runLen x.k l)).length) = runLen x.k l := by rw [List.length_take]; omega
    rw [grp_cons hx, amtG, hg] at hb ha
    have hs : 0 ≤ sumL 0 (rest.take (runLen x.k l)) := sumL_nonneg fun y hy => h0 y (List.mem_of_mem_take hy)
    have hel := eqL_length (sumL 0 (rest.take (runLen x.k l))) (runLen x.k l)
    by_cases h1 : i + 1 < runLen x.k l
    · rw [List.getElem?_append_left (by omega), eqL_get hs (by omega)] at ha
      rw [List.getElem?_append_left (by omega), eqL_get hs (by omega)] at hb
      have ha := Option.some.inj ha
      have hb := Option.some.inj hb
      generalize sumL 0 (rest.take (runLen x.k l)) / (runLen x.k l : Int) = u at ha hb
      generalize sumL 0 (rest.take (runLen x.k l)) % (runLen x.k l : Int) = w at ha hb
      split at ha <;> split at hb <;> omega
    · by_cases h2 : i + 1 = runLen x.k l
      · have e1 := run_key (k := x.k) (l := l) (i := i) (by omega) hp
        rw [h2] at hq
        have e2 := run_next hq
        exact absurd (hk.symm.trans e1) e2
      · rw [List.getElem?_append_right (by omega), hel] at ha hb
        refine tied_fair n (l.drop (runLen x.k l)) (rest.drop (runLen x.k l)) (by rw [List.length_drop]; omega) (fun y hy => h0 y (List.mem_of_mem_drop hy)) (i - runLen x.k l) p q a b ?_ ?_ hk hb ?_
        · rw [List.getElem?_drop, show runLen x.k l + (i - runLen x.k l) = i by omega]; exact hp
        · rw [List.getElem?_drop, show runLen x.k l + (i - runLen x.k l + 1) = i + 1 by omega]; exact hq
        · rw [show i - runLen x.k l + 1 = i + 1 - runLen x.k l by omega]; exact ha
/-! ### what a club is paid -/
theorem share_mem : ∀ {ps : List Place} {ns : List Int} {i : Nat} {p : Place} {n : Int}, ps[i]? = some p → ns[i]? = some n → 0 < n → (⟨p.r.c, n⟩ : Pay) ∈ share ps ns
  | [], _, i, p, n, h, _, _ => by simp at h
  | _ :: _, [], i, p, n, _, h, _ => by simp at h
  | q :: ps, m :: ns, i, p, n, hp, hn, h0 => by
    rw [share]
    cases i with
    | zero =>
      simp at hp hn; subst hp; subst hn
      rw [if_pos h0]; exact List.mem_cons_self
    | succ i =>
      have := share_mem (ps := ps) (ns := ns) (i := i) (by simpa using hp) (by simpa using hn) h0
      split
      · exact List.mem_cons_of_mem _ this
      · exact this
theorem share_from : ∀ {ps : List Place} {ns : List Int} {y : Pay}, y ∈ share ps ns → ∃ (i : Nat) (p : Place), ps[i]? = some p ∧ ns[i]? = some y.a ∧ p.r.c = y.c ∧ 0 < y.a
  | [], _, y, h => by simp [share] at h
  | _ :: _, [], y, h => by simp [share] at h
  | q :: ps, m :: ns, y, h => by
    rw [share] at h
    split at h
    · rename_i hm
      rcases List.mem_cons.1 h with rfl | h
      · exact ⟨0, q, by simp, by simp, rfl, hm⟩
      · obtain ⟨i, p, h1, h2, h3⟩ := share_from h
        exact ⟨i + 1, p, by simpa using h1, by simpa using h2, h3⟩
    · obtain ⟨i, p, h1, h2, h3⟩ := share_from h
      exact ⟨i + 1, p, by simpa using h1, by simpa using h2, h3⟩
theorem paid_eq {l : List Pay} {c a : Int} (hl : l.length ≤ 1000) (h : (∃ y ∈ l, y.c = c) → ∀ y ∈ l, y.c = c → y.a = a) (h0 : (¬ ∃ y ∈ l, y.c = c) → a = 0) : g_law42_paid l c = some a := by
  refine WP.eq ?_
  unfold g_law42_paid
  refine WP.loop (fun k => k ≤ l.length ∧ ∀ y ∈ l.take k, y.c ≠ c) (fun k => l.length - k) ?_ ⟨by omega, by simp⟩
  rintro k ⟨hk, iv⟩
  simp only [g_law42_paid_l2]
  refine WP.iteD (fun hlt => ?_) (fun hlt => ?_)
  · obtain ⟨x, hx⟩ : ∃ x, l[k]? = some x := ⟨_, List.getElem?_eq_getElem (by omega)⟩
    rw [gn_some hx]
    refine WP.iteE (fun he => ?_) (fun he => ?_)
    · (repeat' (first | with_reducible (first | refine WP.iteT ?_ | refine WP.iteF ?_ | refine WP.iteNb ?_ | refine WP.iteD (fun _ => ?_) (fun _ => ?_) | refine WP.iteE (fun _ => ?_) (fun _ => ?_) | refine WP.iteN (fun _ => ?_) (fun _ => ?_) | refine WP.iteB (fun _ => ?_) (fun _ => ?_)) | (with_reducible refine WP.ckI ?_ ?_; · omega) | (with_reducible refine WP.gn ?_ (fun _ _ => ?_); · omega) | (with_reducible refine WP.gt ?_ (fun _ _ => ?_); · omega) | with_reducible (first | refine WP.up ?_ | refine WP.letO ?_ | refine WP.ret ?_)))
      exact h ⟨x, List.mem_of_getElem? hx, he⟩ x (List.mem_of_getElem? hx) he
    · (repeat' (first | with_reducible (first | refine WP.iteT ?_ | refine WP.iteF ?_ | refine WP.iteNb ?_ | refine WP.iteD (fun _ => ?_) (fun _ => ?_) | refine WP.iteE (fun _ => ?_) (fun _ => ?_) | refine WP.iteN (fun _ => ?_) (fun _ => ?_) | refine WP.iteB (fun _ => ?_) (fun _ => ?_)) | (with_reducible refine WP.ckI ?_ ?_; · omega) | (with_reducible refine WP.gn ?_ (fun _ _ => ?_); · omega) | (with_reducible refine WP.gt ?_ (fun _ _ => ?_); · omega) | with_reducible (first | refine WP.up ?_ | refine WP.letO ?_ | refine WP.ret ?_)))
      exact ⟨⟨by omega, all_snoc iv hx he⟩, by dsimp only; omega⟩
  · rw [List.take_of_length_le (by omega)] at iv
    unfold g_law42_paid_j1
    (repeat' (first | with_reducible (first | refine WP.iteT ?_ | refine WP.iteF ?_ | refine WP.iteNb ?_ | refine WP.iteD (fun _ => ?_) (fun _ => ?_) | refine WP.iteE (fun _ => ?_) (fun _ => ?_) | refine WP.iteN (fun _ => ?_) (fun _ => ?_) | refine WP.iteB (fun _ => ?_) (fun _ => ?_)) | (with_reducible refine WP.ckI ?_ ?_; · omega) | (with_reducible refine WP.gn ?_ (fun _ _ => ?_); · omega) | (with_reducible refine WP.gt ?_ (fun _ _ => ?_); · omega) | with_reducible (first | refine WP.up ?_ | refine WP.letO ?_ | refine WP.ret ?_)))
    exact (h0 fun ⟨y, h1, h2⟩ => iv y h1 h2).symm
section
variable {t : Tab} {s : Sch}
theorem paid_place (h : fitS t s = 0) {i : Nat} {p : Place} {a : Int} (hp : t.l[i]? = some p) (ha : (amtL t s)[i]? = some a) : g_law42_paid (srtP (payU t s)) p.r.c = some a := by
  have hpl : (srtP (payU t s)).length ≤ 30 := by
    have h3 := (srtP_perm (payU t s)).length_eq
    have h4 := payU_len t s
    have := fit_ranges h
    omega
  obtain ⟨hpr, _, _⟩ := fit_prizes h
  have hnd := chk_nodup (fitS_ok h).1
  have hnn : 0 ≤ a := amtG_nonneg _ _ (partL_nonneg hpr) a (List.mem_of_getElem? ha)
  have hmem : ∀ y, y ∈ srtP (payU t s) ↔ y ∈ share t.l (amtL t s) := fun y => by rw [(srtP_perm (payU t s)).mem_iff, payU_share]
  have uniq : ∀ y ∈ srtP (payU t s), y.c = p.r.c → y.a = a := fun y hy hyc => by
    obtain ⟨j, q, h1, h2, h3, _⟩ := share_from ((hmem y).1 hy)
    have e1 : (t.l.map clubOf)[j]? = some p.r.c := by rw [List.getElem?_map, h1]; show some q.r.c = _; rw [h3, hyc]
    have e2 : (t.l.map clubOf)[i]? = some p.r.c := by rw [List.getElem?_map, hp]; rfl
    have hij : j = i := by
      obtain ⟨a1, a2⟩ := List.getElem?_eq_some_iff.1 e1
      obtain ⟨b1, b2⟩ := List.getElem?_eq_some_iff.1 e2
      exact (List.getElem_inj hnd).1 (a2.trans b2.symm)
    subst hij
    rw [ha] at h2; exact (Option.some.inj h2).symm
  refine paid_eq (by omega) (fun _ => uniq) fun hno => ?_
  by_cases h0 : 0 < a
  · exact absurd ⟨_, (hmem _).2 (share_mem hp ha h0), rfl⟩ hno
  · omega
theorem share_count : ∀ (ps : List Place) (ns : List Int) (k : Nat) (p : Place) (n : Int), ps[k]? = some p → ns[k]? = some n → (share (ps.take (k + 1)) (ns.take (k + 1))).length = (share (ps.take k) (ns.take k)).length + if n > 0 then 1 else 0 := by
  intro ps ns k p n hp hn
  have h1 := (List.getElem?_eq_some_iff.1 hp).1
  have h2 := (List.getElem?_eq_some_iff.1 hn).1
  rw [take_snoc hp, take_snoc hn, share_append _ _ _ _ (by simp; omega), List.length_append]
  congr 1
  rw [share]
  split <;> simp [share]
end
theorem tiedLaw_eq (t : Tab) (s : Sch) : g_law42_PrizesTied t s = some true := by
  refine WP.eq ?_
  unfold g_law42_PrizesTied
  refine WP.bd sane_eq ?_
  refine WP.iteNb (WP.iteT ?_)
  refine WP.bd (r := ([t], [s])) rfl ?_
  refine WP.bdW ((few_eq [t] [s]).mono fun z hz => ?_)
  cases z
  · exact WP.iteNb (WP.iteF (WP.ret rfl))
  obtain ⟨h1, h2⟩ := few_one (hz.1 rfl)
  refine WP.iteNb (WP.iteT ?_)
  refine WP.bd (gprizes_eq (by omega) (by omega)) ?_
  refine WP.iteN (fun h => WP.ret rfl) (fun h => ?_)
  dsimp only at h
  rw [if_pos h]
  obtain ⟨hpr, hsum, _⟩ := fit_prizes h
  have hal := amtL_len t s
  have hfair := tied_fair t.l.length t.l (partL s.p) (Nat.le_refl _) (partL_nonneg hpr)
  refine WP.loop (fun v => v.2 ≤ t.l.length ∧ v.1 = ((share (t.l.take v.2) ((amtL t s).take v.2)).length : Int) ∧ v.1 ≤ (v.2 : Int)) (fun v => t.l.length - v.2) ?_ ⟨by simp, by simp [share], by simp⟩
  rintro ⟨m, k⟩ ⟨hk, im, iml⟩
  dsimp only at hk im iml ⊢
  simp only [g_law42_PrizesTied_l2]
  refine WP.iteD (fun hlt => ?_) (fun hlt => ?_)
  · obtain ⟨x, hx⟩ : ∃ x, t.l[k]? = some x := ⟨_, List.getElem?_eq_getElem (by omega)⟩
    obtain ⟨a, ha⟩ : ∃ a, (amtL t s)[k]? = some a := ⟨_, List.getElem?_eq_getElem (by omega)⟩
    rw [gn_some hx]
    refine WP.bd (paid_place h hx ha) ?_
    have hc := share_count t.l (amtL t s) k x a hx ha
    have j3 : ∀ m', m' = ((share (t.l.take (k + 1)) ((amtL t s).take (k + 1))).length : Int) → m' ≤ (k : Int) + 1 → WP (g_law42_PrizesTied_j3 k (srtP (payU t s), fitS t s) t m') (Rnd (fun v : Int × Nat => v.2 ≤ t.l.length ∧ v.1 = ((share (t.l.take v.2) ((amtL t s).take v.2)).length : Int) ∧ v.1 ≤ (v.2 : Int)) (fun v => t.l.length - v.2) (t.l.length - k) fun z => z = true) := fun m' hm' hm2 => by
      unfold g_law42_PrizesTied_j3
      (repeat' (first | with_reducible (first | refine WP.iteT ?_ | refine WP.iteF ?_ | refine WP.iteNb ?_ | refine WP.iteD (fun _ => ?_) (fun _ => ?_) | refine WP.iteE (fun _ => ?_) (fun _ => ?_) | refine WP.iteN (fun _ => ?_) (fun _ => ?_) | refine WP.iteB (fun _ => ?_) (fun _ => ?_)) | (with_reducible refine WP.ckI ?_ ?_; · omega) | (with_reducible refine WP.gn ?_ (fun _ _ => ?_); · omega) | (with_reducible refine WP.gt ?_ (fun _ _ => ?_); · omega) | with_reducible (first | refine WP.up ?_ | refine WP.letO ?_ | refine WP.ret ?_)))
      exact ⟨⟨by dsimp only; omega, hm', by dsimp only; omega⟩, by dsimp only; omega⟩
    have j4 : ∀ m', m' = ((share (t.l.take (k + 1)) ((amtL t s).take (k + 1))).length : Int) → m' ≤ (k : Int) + 1 → WP (g_law42_PrizesTied_j4 k (srtP (payU t s), fitS t s) t a x m') (Rnd (fun v : Int × Nat => v.2 ≤ t.l.length ∧ v.1 = ((share (t.l.take v.2) ((amtL t s).take v.2)).length : Int) ∧ v.1 ≤ (v.2 : Int)) (fun v => t.l.length - v.2) (t.l.length - k) fun z => z = true) := fun m' hm' hm2 => by
      unfold g_law42_PrizesTied_j4
      refine WP.iteE (fun hk0 => ?_) (fun hk0 => ?_)
      · unfold g_law42_PrizesTied_j5
        exact WP.iteT (j3 m' hm' hm2)
      · refine WP.ckI (by omega) ?_
        obtain ⟨y, hy⟩ : ∃ y, t.l[k - 1]? = some y := ⟨_, List.getElem?_eq_getElem (by omega)⟩
        have hy' : t.l[(((k : Nat) : Int) - 1).toNat]? = some y := by rw [show (((k : Nat) : Int) - 1).toNat = k - 1 by omega]; exact hy
        obtain ⟨b, hb⟩ : ∃ b, (amtL t s)[k - 1]? = some b := ⟨_, List.getElem?_eq_getElem (by omega)⟩
        rw [gt_some hy' (by omega)]
        unfold g_law42_PrizesTied_j5
        by_cases hkk : x.k = y.k
        · rw [show (x.k != y.k) = false by simpa using hkk]
          refine WP.iteF ?_
          refine WP.ckI (by omega) ?_
          rw [gt_some hy' (by omega)]
          refine WP.bd (paid_place h hy hb) ?_
          obtain ⟨f1, f2⟩ := hfair (k - 1) y x a b hy (by rw [show k - 1 + 1 = k by omega]; exact hx) hkk.symm hb (by rw [show k - 1 + 1 = k by omega]; exact ha)
          have hab : a ≤ 1125899906842624 := amtG_le _ _ (partL_nonneg hpr) (fun i m => part_total hpr hsum i m) a (List.mem_of_getElem? ha)
          have hnn : 0 ≤ a := amtG_nonneg _ _ (partL_nonneg hpr) a (List.mem_of_getElem? ha)
          refine WP.iteD (fun h3 => absurd h3 (by omega)) (fun _ => ?_)
          refine WP.ckI (by omega) ?_
          rw [show (decide (b > a + 1)) = false from decide_eq_false (by omega)]
          unfold g_law42_PrizesTied_j6
          exact WP.iteF (j3 m' hm' hm2)
        · rw [show (x.k != y.k) = true by simpa using hkk]
          exact WP.iteT (j3 m' hm' hm2)
    refine WP.iteD (fun hp => ?_) (fun hp => ?_)
    · rw [if_pos hp] at hc
      refine WP.ckI (by omega) ?_
      exact j4 _ (by omega) (by omega)
    · rw [if_neg hp] at hc
      exact j4 _ (by omega) (by omega)
  · rw [List.take_of_length_le (by omega), List.take_of_length_le (by omega), ← payU_share] at im
    unfold g_law42_PrizesTied_j1
    refine WP.up (WP.ret ?_)
    have := (srtP_perm (payU t s)).length_eq
    show (m == (((srtP (payU t s)).length : Nat) : Int)) = true
    rw [beq_iff_eq]; omega
end Go.Proofs.YtoiiblkncbnlaaaGreat
