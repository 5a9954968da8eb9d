/-
  Texts that belong together, one behind the other; what each of them proves, and under which conditions, its own heading says.
-/
import Derived.Test.YtoiiblkncbnlaaaGreatRows
import Derived.Test.YtoiiblkncbnlaaaGreatXd
/-
  Go functions as partial functions, printed by auto.py: what each returns when its partial function has a value. Conditions: those of each theorem.
-/
namespace Go.Proofs.YtoiiblkncbnlaaaGreat
open Go.DL
set_option maxRecDepth 100000
set_option maxHeartbeats 4000000
set_option linter.unusedVariables false
set_option linter.unusedSimpArgs false
theorem g_ref42_Same_ret {a_1 : List Pay} {b_2 : List Pay} {r : Bool} (h : g_ref42_Same a_1 b_2 = some r) : Ret Tryz.prog 16 [(.sl 2 (a_1.map encPay)), (.sl 2 (b_2.map encPay))] (B (r)) := by
  refine Ret.of_T Tryz.func16 (by kernel_rfl) rfl ?_
  refine T_turn [] [0, 1] [] (mk 26 [(0, (dt (.sl 2 (a_1.map encPay)))), (1, (dt (.sl 2 (b_2.map encPay))))] []) (by kernel_rfl) ?_
  refine T_reg [] [0, 1] [] (mk 26 [(0, (dt (.sl 2 (a_1.map encPay)))), (1, (dt (.sl 2 (b_2.map encPay))))] []) _ (by kernel_rfl) (z2 zt) ?_
  refine T_seq ?_
  refine T_reg [zn, (zd (I ((a_1.length : Nat) : Int))), zn, (zd (I ((b_2.length : Nat) : Int)))] [0, 1, 10] [] (mk 26 [(0, (dt (.sl 2 (a_1.map encPay)))), (1, (dt (.sl 2 (b_2.map encPay)))), (10, (db (((a_1.length : Nat) : Int) != ((b_2.length : Nat) : Int))))] []) _ (by kernel_rfl) (z3 (zc (len_s encPay a_1) (z3 (zc (len_s encPay b_2) (z2 zt))))) ?_
  refine T_cond (((a_1.length : Nat) : Int) != ((b_2.length : Nat) : Int)) (by kernel_rfl) (fun b3 => ?_) (fun b3 => ?_)
  replace h := ite_t b3 h
  refine T_reg [] [4] [] (mk 26 [(4, (db false))] []) _ (by kernel_rfl) (z2 zt) ?_
  refine T_ret ?_
  obtain rfl := some_inv h
  exact ret_here [(db false)] (by kernel_rfl) (.inl rfl)
  replace h := ite_f b3 h
  refine T_skip ?_
  refine T_seqJ (α := Unit) (fun (_ : Unit) => (mk 26 [] [])) (fun (_ : Unit) => g_ref42_Same_j1 = some r) (fun v h => ?_) ?_
  refine T_reg [] [4] [] (mk 26 [(4, (db true))] []) _ (by kernel_rfl) (z2 zt) ?_
  refine T_ret ?_
  obtain rfl := some_inv h
  exact ret_here [(db true)] (by kernel_rfl) (.inl rfl)
  refine T_reg [] [0, 1, 5] [] (mk 26 [(0, (dt (.sl 2 (a_1.map encPay)))), (1, (dt (.sl 2 (b_2.map encPay)))), (5, (di 0))] []) _ (by kernel_rfl) (z2 zt) ?_
  refine T_block ?_
  refine T_arr [] [0, 1, 5] [] [] _ (by kernel_rfl) (T_loopO (σ := Nat) (fun (i_4 : Nat) => (mk 26 [(0, (dt (.sl 2 (a_1.map encPay)))), (1, (dt (.sl 2 (b_2.map encPay)))), (5, (di ((i_4 : Nat) : Int)))] [])) (g_ref42_Same_l2 a_1 b_2) 0 h (fun i_4 y1 hy1 h => ?_))
  refine T_seq ?_
  refine T_reg [zn, zn, (zd (I ((a_1.length : Nat) : Int)))] [0, 1, 5, 14] [] (mk 26 [(0, (dt (.sl 2 (a_1.map encPay)))), (1, (dt (.sl 2 (b_2.map encPay)))), (5, (di ((i_4 : Nat) : Int))), (14, (db (decide (((i_4 : Nat) : Int) < ((a_1.length : Nat) : Int)))))] []) _ (by kernel_rfl) (z5 (zc (len_s encPay a_1) (z2 zt))) ?_
  refine T_cond (decide (((i_4 : Nat) : Int) < ((a_1.length : Nat) : Int))) (by kernel_rfl) (fun b6 => ?_) (fun b6 => ?_)
  replace h := ite_t b6 h
  refine T_skip ?_
  refine T_seq ?_
  refine T_block ?_
  obtain ⟨x_7, e8, e9, e10, h⟩ := gn_inv encPay h
  obtain ⟨x_11, e12, e13, e14, h⟩ := gn_inv encPay h
  refine T_regD 9 (hl 7 [(2, (zd (encPay x_7))), (6, (zd (encPay x_11)))]) [0, 1, 5, 25] [] (mk 26 [(0, (dt (.sl 2 (a_1.map encPay)))), (1, (dt (.sl 2 (b_2.map encPay)))), (5, (di ((i_4 : Nat) : Int))), (25, (db (!((x_7.c == x_11.c) && ((x_7.a == x_11.a) && true)))))] []) _ (by kernel_rfl) (by kernel_rfl) (by kernel_rfl) (zc (z5 (zc e8 (z7 (zc e12 (z4 zt))))) zt) ?_
  refine T_cond (!((x_7.c == x_11.c) && ((x_7.a == x_11.a) && true))) (by kernel_rfl) (fun b15 => ?_) (fun b15 => ?_)
  replace h := ite_t b15 h
  refine T_reg [] [4] [] (mk 26 [(4, (db false))] []) _ (by kernel_rfl) (z2 zt) ?_
  refine T_ret ?_
  replace h := up_inv h hy1
  obtain rfl := some_inv h
  exact ret_here [(db false)] (by kernel_rfl) (.inl rfl)
  replace h := ite_f b15 h
  refine T_skip ?_
  obtain ⟨c16, h⟩ := ckI_inv h
  exact T_regJ [zn, (zd (I ((i_4 + 1 : Nat) : Int)))] [] [0, 1, 5] [] [] _ _ (by kernel_rfl) (z3 (zc c16 (z2 zt))) (fun s hs => Exists.intro (i_4 + 1) (And.intro h hs))
  replace h := ite_f b6 h
  refine T_exit ?_
  replace h := up_inv h hy1
  exact Exists.intro () (And.intro h (arr [] [] [] [] (by kernel_rfl)))

theorem g_ref42_SameInts_ret {a_1 : List Int} {b_2 : List Int} {r : Bool} (h : g_ref42_SameInts a_1 b_2 = some r) : Ret Tryz.prog 19 [(.sl 1 (a_1.map elI)), (.sl 1 (b_2.map elI))] (B (r)) := by
  refine Ret.of_T Tryz.func19 (by kernel_rfl) rfl ?_
  refine T_turn [] [0, 1] [] (mk 26 [(0, (dt (.sl 1 (a_1.map elI)))), (1, (dt (.sl 1 (b_2.map elI))))] []) (by kernel_rfl) ?_
  refine T_reg [] [0, 1] [] (mk 26 [(0, (dt (.sl 1 (a_1.map elI)))), (1, (dt (.sl 1 (b_2.map elI))))] []) _ (by kernel_rfl) (z2 zt) ?_
  refine T_seq ?_
  refine T_reg [zn, (zd (I ((a_1.length : Nat) : Int))), zn, (zd (I ((b_2.length : Nat) : Int)))] [0, 1, 10] [] (mk 26 [(0, (dt (.sl 1 (a_1.map elI)))), (1, (dt (.sl 1 (b_2.map elI)))), (10, (db (((a_1.length : Nat) : Int) != ((b_2.length : Nat) : Int))))] []) _ (by kernel_rfl) (z3 (zc (len_s elI a_1) (z3 (zc (len_s elI b_2) (z2 zt))))) ?_
  refine T_cond (((a_1.length : Nat) : Int) != ((b_2.length : Nat) : Int)) (by kernel_rfl) (fun b3 => ?_) (fun b3 => ?_)
  replace h := ite_t b3 h
  refine T_reg [] [4] [] (mk 26 [(4, (db false))] []) _ (by kernel_rfl) (z2 zt) ?_
  refine T_ret ?_
  obtain rfl := some_inv h
  exact ret_here [(db false)] (by kernel_rfl) (.inl rfl)
  replace h := ite_f b3 h
  refine T_skip ?_
  refine T_seqJ (α := Unit) (fun (_ : Unit) => (mk 26 [] [])) (fun (_ : Unit) => g_ref42_SameInts_j1 = some r) (fun v h => ?_) ?_
  refine T_reg [] [4] [] (mk 26 [(4, (db true))] []) _ (by kernel_rfl) (z2 zt) ?_
  refine T_ret ?_
  obtain rfl := some_inv h
  exact ret_here [(db true)] (by kernel_rfl) (.inl rfl)
  refine T_reg [] [0, 1, 5] [] (mk 26 [(0, (dt (.sl 1 (a_1.map elI)))), (1, (dt (.sl 1 (b_2.map elI)))), (5, (di 0))] []) _ (by kernel_rfl) (z2 zt) ?_
  refine T_block ?_
  refine T_arr [] [0, 1, 5] [] [] _ (by kernel_rfl) (T_loopO (σ := Nat) (fun (i_4 : Nat) => (mk 26 [(0, (dt (.sl 1 (a_1.map elI)))), (1, (dt (.sl 1 (b_2.map elI)))), (5, (di ((i_4 : Nat) : Int)))] [])) (g_ref42_SameInts_l2 a_1 b_2) 0 h (fun i_4 y1 hy1 h => ?_))
  refine T_seq ?_
  refine T_reg [zn, zn, (zd (I ((a_1.length : Nat) : Int)))] [0, 1, 5, 14] [] (mk 26 [(0, (dt (.sl 1 (a_1.map elI)))), (1, (dt (.sl 1 (b_2.map elI)))), (5, (di ((i_4 : Nat) : Int))), (14, (db (decide (((i_4 : Nat) : Int) < ((a_1.length : Nat) : Int)))))] []) _ (by kernel_rfl) (z5 (zc (len_s elI a_1) (z2 zt))) ?_
  refine T_cond (decide (((i_4 : Nat) : Int) < ((a_1.length : Nat) : Int))) (by kernel_rfl) (fun b6 => ?_) (fun b6 => ?_)
  replace h := ite_t b6 h
  refine T_skip ?_
  refine T_seq ?_
  refine T_block ?_
  obtain ⟨x_7, e8, e9, e10, h⟩ := gn_inv elI h
  obtain ⟨x_11, e12, e13, e14, h⟩ := gn_inv elI h
  refine T_regD 9 (hl 7 [(2, (zd (I x_7))), (6, (zd (I x_11)))]) [0, 1, 5, 25] [] (mk 26 [(0, (dt (.sl 1 (a_1.map elI)))), (1, (dt (.sl 1 (b_2.map elI)))), (5, (di ((i_4 : Nat) : Int))), (25, (db (x_7 != x_11)))] []) _ (by kernel_rfl) (by kernel_rfl) (by kernel_rfl) (zc (z5 (zc e8 (z7 (zc e12 (z4 zt))))) zt) ?_
  refine T_cond (x_7 != x_11) (by kernel_rfl) (fun b15 => ?_) (fun b15 => ?_)
  replace h := ite_t b15 h
  refine T_reg [] [4] [] (mk 26 [(4, (db false))] []) _ (by kernel_rfl) (z2 zt) ?_
  refine T_ret ?_
  replace h := up_inv h hy1
  obtain rfl := some_inv h
  exact ret_here [(db false)] (by kernel_rfl) (.inl rfl)
  replace h := ite_f b15 h
  refine T_skip ?_
  obtain ⟨c16, h⟩ := ckI_inv h
  exact T_regJ [zn, (zd (I ((i_4 + 1 : Nat) : Int)))] [] [0, 1, 5] [] [] _ _ (by kernel_rfl) (z3 (zc c16 (z2 zt))) (fun s hs => Exists.intro (i_4 + 1) (And.intro h hs))
  replace h := ite_f b6 h
  refine T_exit ?_
  replace h := up_inv h hy1
  exact Exists.intro () (And.intro h (arr [] [] [] [] (by kernel_rfl)))

theorem g_law42_sane_ret {r : Bool} (h : g_law42_sane = some r) : Ret Tryz.prog 9 [] (B (r)) := by
  refine Ret.of_T Tryz.func9 (by kernel_rfl) rfl ?_
  refine T_turn [] [] [] (mk 109 [] []) (by kernel_rfl) ?_
  refine T_reg [] [] [] (mk 109 [] []) _ (by kernel_rfl) (z2 zt) ?_
  refine T_reg [] [1] [] (mk 109 [(1, (rf 1 0))] [(1, (.var [(.dat (I 2)), (.own 16), (.dat (I 0)), (.dat (I 0)), (.dat (I (-1))), (.dat (I (-1)))])), (16, (.row 58 3 ([(⟨1, 2, 101⟩ : Prize)].map encPrize)))]) _ (by kernel_rfl) (z3 (zc (show dfill (fun i => some (i * 3, 3)) (List.replicate (1 * 3) .junk) [(0, [(.dat (I 1)), (.dat (I 2)), (.dat (I 101))])] = some ((flat ([(⟨1, 2, 101⟩ : Prize)].map encPrize)).map .dat) from rfl) (z6 zt))) ?_
  refine T_reg [] [1, 2] [] (mk 109 [(1, (rf 1 0)), (2, (rf 2 0))] [(2, (.var [(.dat (I 2)), (.own 16), (.dat (I 0)), (.dat (I 0)), (.dat (I (-1))), (.dat (I (-1)))])), (1, (.var [(.dat (I 2)), (.own 16), (.dat (I 0)), (.dat (I 0)), (.dat (I (-1))), (.dat (I (-1)))])), (16, (.row 58 3 ([(⟨1, 2, 101⟩ : Prize)].map encPrize)))]) _ (by kernel_rfl) (z6 zt) ?_
  refine T_reg [] [1, 2] [] (mk 109 [(1, (rf 1 0)), (2, (rf 2 0))] [(21, (.row 58 3 ([(⟨1, 2, 101⟩ : Prize), (⟨2, 2, 1⟩ : Prize)].map encPrize))), (2, (.var [(.dat (I 2)), (.own 21), (.dat (I 0)), (.dat (I 0)), (.dat (I (-1))), (.dat (I (-1)))])), (1, (.var [(.dat (I 2)), (.own 16), (.dat (I 0)), (.dat (I 0)), (.dat (I (-1))), (.dat (I (-1)))])), (16, (.row 58 3 ([(⟨1, 2, 101⟩ : Prize)].map encPrize)))]) _ (by kernel_rfl) (z5 (zc (show dfill (fun i => some (i * 3, 3)) (List.replicate (2 * 3) .junk) [(0, [(.dat (I 1)), (.dat (I 2)), (.dat (I 101))]), (1, [(.dat (I 2)), (.dat (I 2)), (.dat (I 1))])] = some ((flat ([(⟨1, 2, 101⟩ : Prize), (⟨2, 2, 1⟩ : Prize)].map encPrize)).map .dat) from rfl) (z4 zt))) ?_
  obtain ⟨r_1, e2, h⟩ := bd_inv h
  obtain ⟨r_3, e4, h⟩ := bd_inv h
  refine T_arr [] [1, 2] [] [1, 2, 16, 21] (mk 109 [(1, (rf 1 0)), (2, (rf 2 0))] [(1, (.var [(.dat (I 2)), (.own 16), (.dat (I 0)), (.dat (I 0)), (.dat (I (-1))), (.dat (I (-1)))])), (2, (.var [(.dat (I 2)), (.own 21), (.dat (I 0)), (.dat (I 0)), (.dat (I (-1))), (.dat (I (-1)))])), (16, (.row 58 3 ([(⟨1, 2, 101⟩ : Prize)].map encPrize))), (21, (.row 58 3 ([(⟨1, 2, 101⟩ : Prize), (⟨2, 2, 1⟩ : Prize)].map encPrize)))]) (by kernel_rfl) ?_
  refine T_anyUS [{}, { h := zd (encTab r_1), co := [.ice 24] }, {}, { h := zd (.tup [(.sl 2 (r_3.1.map encPay)), (I r_3.2)]), co := [.ice 16] }, {}, {}, {}, {}, {}] _ (mk 109 [(1, (rf 1 0)), (2, (rf 2 0))] [(1, (.var [(.dat (I 2)), (.own 16), (.dat (I 0)), (.dat (I 0)), (.dat (I (-1))), (.dat (I (-1)))])), (2, (.var [(.dat (I 2)), (.own 21), (.dat (I 0)), (.dat (I 0)), (.dat (I (-1))), (.dat (I (-1)))])), (16, (.row 58 3 ([(⟨1, 2, 101⟩ : Prize)].map encPrize))), (21, (.row 58 3 ([(⟨1, 2, 101⟩ : Prize), (⟨2, 2, 1⟩ : Prize)].map encPrize)))]) [(0, 24, (ow 24)), (1, 24, (dt (.sl 1 ([(4 : Int), (9 : Int)].map elI)))), (1, 25, (.agg (qTab r_1))), (2, 26, (.agg [(.dat (I 2)), (.own 16), (.dat (I 0)), (.dat (I 0)), (.dat (I (-1))), (.dat (I (-1)))])), (3, 26, (.agg [(.dat (I 2)), (.dat (.sl 3 ([(⟨1, 2, 101⟩ : Prize)].map encPrize))), (.dat (I 0)), (.dat (I 0)), (.dat (I (-1))), (.dat (I (-1)))])), (3, 27, (.tup [(false, [(.dat (.sl 2 (r_3.1.map encPay)))]), (false, [(.dat (I r_3.2))])])), (4, 23, (.tup [(false, [(.dat (.sl 2 (r_3.1.map encPay)))]), (false, [(.dat (I r_3.2))])])), (5, 28, (dt (.sl 2 (r_3.1.map encPay)))), (6, 29, (di r_3.2)), (7, 3, (dt (.sl 2 (r_3.1.map encPay)))), (8, 4, (di r_3.2))] [(0, 24, some (.row 3 1 ([(4 : Int), (9 : Int)].map elI))), (1, 24, none), (3, 1, some (.var [(.dat (I 2)), (.dat (.sl 3 ([(⟨1, 2, 101⟩ : Prize)].map encPrize))), (.dat (I 0)), (.dat (I 0)), (.dat (I (-1))), (.dat (I (-1)))])), (3, 16, none)] [1, 2, 16, 21, 24] [0, 1, 3, 4, 5, 7, 15, 31, 63, 95, 127, 191, 255, 511] (by kernel_rfl) (by decide) (by kernel_rfl) (by kernel_rfl) (by kernel_rfl) (zs (zc zt (show dfill (fun i => some (i * 1, 1)) (List.replicate (2 * 1) .junk) [(0, [(.dat (I 4))]), (1, [(.dat (I 9))])] = some ((flat ([(4 : Int), (9 : Int)].map elI)).map .dat) from rfl)) (zs (zc zt (g_law42_level_ret e2)) (zs (zc zt zt) (zs (zc zt (g_prizes_Prizes_ret e4)) (zs (zc zt zt) (zs (zc zt zt) (zs (zc zt zt) (zs (zc zt zt) (zs (zc zt zt) zS))))))))) ?_
  refine T_turn [] [1, 2, 3, 4] [] (mk 109 [(1, (rf 1 0)), (2, (rf 2 0)), (3, (dt (.sl 2 (r_3.1.map encPay)))), (4, (di r_3.2))] [(1, (.var [(.dat (I 2)), (.dat (.sl 3 ([(⟨1, 2, 101⟩ : Prize)].map encPrize))), (.dat (I 0)), (.dat (I 0)), (.dat (I (-1))), (.dat (I (-1)))])), (2, (.var [(.dat (I 2)), (.own 21), (.dat (I 0)), (.dat (I 0)), (.dat (I (-1))), (.dat (I (-1)))])), (21, (.row 58 3 ([(⟨1, 2, 101⟩ : Prize), (⟨2, 2, 1⟩ : Prize)].map encPrize)))]) (by kernel_rfl) ?_
  obtain ⟨r_5, e6, h⟩ := bd_inv h
  refine T_regD 11 [zn, (zd (encTab r_1)), zn, zn, zn, (zd (.tup [(.sl 1 (r_5.1.map elI)), (I r_5.2)]))] [1, 2, 3, 4, 5, 6] [] (mk 109 [(1, (rf 1 0)), (2, (rf 2 0)), (3, (dt (.sl 2 (r_3.1.map encPay)))), (4, (di r_3.2)), (5, (dt (.sl 1 (r_5.1.map elI)))), (6, (di r_5.2))] [(1, (.var [(.dat (I 2)), (.dat (.sl 3 ([(⟨1, 2, 101⟩ : Prize)].map encPrize))), (.dat (I 0)), (.dat (I 0)), (.dat (I (-1))), (.dat (I (-1)))])), (2, (.var [(.dat (I 2)), (.own 21), (.dat (I 0)), (.dat (I 0)), (.dat (I (-1))), (.dat (I (-1)))])), (21, (.row 58 3 ([(⟨1, 2, 101⟩ : Prize), (⟨2, 2, 1⟩ : Prize)].map encPrize)))]) _ (by kernel_rfl) (by kernel_rfl) (by kernel_rfl) (zc (z1 (zc (show dfill (fun i => some (i * 1, 1)) (List.replicate (2 * 1) .junk) [(0, [(.dat (I 4))]), (1, [(.dat (I 9))])] = some ((flat ([(4 : Int), (9 : Int)].map elI)).map .dat) from rfl) (z1 (zc (g_law42_level_ret e2) (z1 (zc (show dfill (fun i => some (i * 3, 3)) (List.replicate (1 * 3) .junk) [(0, [(.dat (I r_1.s)), (.dat (I r_1.c)), (.dat (.sl 14 (r_1.l.map encPlace)))])] = some ((flat ([r_1].map encTab)).map .dat) from rfl) (z3 (zc (show dfill (fun i => some (i * 6, 6)) (List.replicate (1 * 6) .junk) [(0, [(.dat (I 2)), (.dat (.sl 3 ([(⟨1, 2, 101⟩ : Prize)].map encPrize))), (.dat (I 0)), (.dat (I 0)), (.dat (I (-1))), (.dat (I (-1)))])] = some ((flat ([(⟨2, [(⟨1, 2, 101⟩ : Prize)], 0, 0, (-1), (-1)⟩ : Sch)].map encSch)).map .dat) from rfl) (z1 (zc (g_prizes_Next_ret e6) (z8 (z2 zt)))))))))))) zt) ?_
  obtain ⟨r_7, e8, h⟩ := bd_inv h
  refine T_reg [(zd (.tup [(.sl 1 (r_7.1.map elI)), (I r_7.2)]))] [1, 2, 3, 4, 5, 6, 8] [] (mk 109 [(1, (rf 1 0)), (2, (rf 2 0)), (3, (dt (.sl 2 (r_3.1.map encPay)))), (4, (di r_3.2)), (5, (dt (.sl 1 (r_5.1.map elI)))), (6, (di r_5.2)), (8, (di r_7.2))] [(1, (.var [(.dat (I 2)), (.dat (.sl 3 ([(⟨1, 2, 101⟩ : Prize)].map encPrize))), (.dat (I 0)), (.dat (I 0)), (.dat (I (-1))), (.dat (I (-1)))])), (2, (.var [(.dat (I 2)), (.own 21), (.dat (I 0)), (.dat (I 0)), (.dat (I (-1))), (.dat (I (-1)))])), (21, (.row 58 3 ([(⟨1, 2, 101⟩ : Prize), (⟨2, 2, 1⟩ : Prize)].map encPrize)))]) _ (by kernel_rfl) (z1 (zc (show Ret Tryz.prog 20 [nilS, nilS, (I 0)] (.tup [(.sl 1 (r_7.1.map elI)), (I r_7.2)]) from (Ret.weak (g_prizes_Next_ret e8) ⟨Weak.nil 3, Weak.nil 6, Weak.refl _, trivial⟩)) (z8 (z2 zt)))) ?_
  obtain ⟨r_9, e10, h⟩ := bd_inv h
  refine T_reg [zn, zn, (zd (.tup [(.sl 2 (r_9.1.map encPay)), (I r_9.2)]))] [1, 2, 3, 4, 5, 6, 8, 10] [] (mk 109 [(1, (rf 1 0)), (2, (rf 2 0)), (3, (dt (.sl 2 (r_3.1.map encPay)))), (4, (di r_3.2)), (5, (dt (.sl 1 (r_5.1.map elI)))), (6, (di r_5.2)), (8, (di r_7.2)), (10, (di r_9.2))] [(1, (.var [(.dat (I 2)), (.dat (.sl 3 ([(⟨1, 2, 101⟩ : Prize)].map encPrize))), (.dat (I 0)), (.dat (I 0)), (.dat (I (-1))), (.dat (I (-1)))])), (2, (.var [(.dat (I 2)), (.own 21), (.dat (I 0)), (.dat (I 0)), (.dat (I (-1))), (.dat (I (-1)))])), (21, (.row 58 3 ([(⟨1, 2, 101⟩ : Prize), (⟨2, 2, 1⟩ : Prize)].map encPrize)))]) _ (by kernel_rfl) (z5 (zc (show Ret Tryz.prog 12 [(.agg [(I 0), (I 0), nilS]), (.agg [(I 2), (.sl 3 ([(⟨1, 2, 101⟩ : Prize)].map encPrize)), (I 0), (I 0), (I (-1)), (I (-1))])] (.tup [(.sl 2 (r_9.1.map encPay)), (I r_9.2)]) from (Ret.weak (g_prizes_Prizes_ret e10) ⟨(Weak.agg ⟨Weak.refl _, Weak.refl _, Weak.nil 14, trivial⟩), Weak.refl _, trivial⟩)) (z8 (z2 zt)))) ?_
  refine T_reg [] [1, 2, 3, 4, 5, 6, 8, 10, 11] [] (mk 109 [(1, (rf 1 0)), (2, (rf 2 0)), (3, (dt (.sl 2 (r_3.1.map encPay)))), (4, (di r_3.2)), (5, (dt (.sl 1 (r_5.1.map elI)))), (6, (di r_5.2)), (8, (di r_7.2)), (10, (di r_9.2)), (11, (rf 11 0))] [(11, (.var [(.dat (I 2)), (.dat (.sl 3 ([(⟨1, 2, 101⟩ : Prize)].map encPrize))), (.dat (I 0)), (.dat (I 0)), (.dat (I (-1))), (.dat (I (-1)))])), (1, (.var [(.dat (I 2)), (.dat (.sl 3 ([(⟨1, 2, 101⟩ : Prize)].map encPrize))), (.dat (I 0)), (.dat (I 0)), (.dat (I (-1))), (.dat (I (-1)))])), (2, (.var [(.dat (I 2)), (.own 21), (.dat (I 0)), (.dat (I 0)), (.dat (I (-1))), (.dat (I (-1)))])), (21, (.row 58 3 ([(⟨1, 2, 101⟩ : Prize), (⟨2, 2, 1⟩ : Prize)].map encPrize)))]) _ (by kernel_rfl) (z6 zt) ?_
  refine T_reg [] [1, 2, 3, 4, 5, 6, 8, 10, 11] [] (mk 109 [(1, (rf 1 0)), (2, (rf 2 0)), (3, (dt (.sl 2 (r_3.1.map encPay)))), (4, (di r_3.2)), (5, (dt (.sl 1 (r_5.1.map elI)))), (6, (di r_5.2)), (8, (di r_7.2)), (10, (di r_9.2)), (11, (rf 11 0))] [(11, (.var [(.dat (I 2)), (.dat (.sl 3 ([(⟨1, 2, 101⟩ : Prize)].map encPrize))), (.dat (I 3)), (.dat (I 0)), (.dat (I 1)), (.dat (I (-1)))])), (1, (.var [(.dat (I 2)), (.dat (.sl 3 ([(⟨1, 2, 101⟩ : Prize)].map encPrize))), (.dat (I 0)), (.dat (I 0)), (.dat (I (-1))), (.dat (I (-1)))])), (2, (.var [(.dat (I 2)), (.own 21), (.dat (I 0)), (.dat (I 0)), (.dat (I (-1))), (.dat (I (-1)))])), (21, (.row 58 3 ([(⟨1, 2, 101⟩ : Prize), (⟨2, 2, 1⟩ : Prize)].map encPrize)))]) _ (by kernel_rfl) (z8 zt) ?_
  obtain ⟨r_11, e12, h⟩ := bd_inv h
  refine T_regD 11 [zn, (zd (encTab r_1)), zn, (zd (.tup [(.sl 1 (r_11.1.map elI)), (.sl 1 (r_11.2.1.map elI)), (I r_11.2.2)]))] [1, 2, 3, 4, 5, 6, 8, 10, 14] [11] (mk 109 [(1, (rf 1 0)), (2, (rf 2 0)), (3, (dt (.sl 2 (r_3.1.map encPay)))), (4, (di r_3.2)), (5, (dt (.sl 1 (r_5.1.map elI)))), (6, (di r_5.2)), (8, (di r_7.2)), (10, (di r_9.2)), (14, (di r_11.2.2))] [(1, (.var [(.dat (I 2)), (.dat (.sl 3 ([(⟨1, 2, 101⟩ : Prize)].map encPrize))), (.dat (I 0)), (.dat (I 0)), (.dat (I (-1))), (.dat (I (-1)))])), (2, (.var [(.dat (I 2)), (.own 21), (.dat (I 0)), (.dat (I 0)), (.dat (I (-1))), (.dat (I (-1)))])), (21, (.row 58 3 ([(⟨1, 2, 101⟩ : Prize), (⟨2, 2, 1⟩ : Prize)].map encPrize)))]) _ (by kernel_rfl) (by kernel_rfl) (by kernel_rfl) (zc (z1 (zc (show dfill (fun i => some (i * 1, 1)) (List.replicate (2 * 1) .junk) [(0, [(.dat (I 4))]), (1, [(.dat (I 9))])] = some ((flat ([(4 : Int), (9 : Int)].map elI)).map .dat) from rfl) (z1 (zc (g_law42_level_ret e2) (z3 (zc (g_prizes_Moves_ret e12) (z8 (z6 zt)))))))) zt) ?_
  refine T_seq ?_
  refine T_seqJ (α := Bool) (fun (v_13 : Bool) => (mk 109 [(1, (rf 1 0)), (2, (rf 2 0)), (3, (dt (.sl 2 (r_3.1.map encPay)))), (5, (dt (.sl 1 (r_5.1.map elI)))), (83, (db (v_13)))] [(1, (.var [(.dat (I 2)), (.dat (.sl 3 ([(⟨1, 2, 101⟩ : Prize)].map encPrize))), (.dat (I 0)), (.dat (I 0)), (.dat (I (-1))), (.dat (I (-1)))])), (2, (.var [(.dat (I 2)), (.own 21), (.dat (I 0)), (.dat (I 0)), (.dat (I (-1))), (.dat (I (-1)))])), (21, (.row 58 3 ([(⟨1, 2, 101⟩ : Prize), (⟨2, 2, 1⟩ : Prize)].map encPrize)))])) (fun (v_13 : Bool) => g_law42_sane_j1 r_3 r_5 v_13 = some r) (fun v_13 h => ?_) ?_
  refine T_cond (v_13) (by kernel_rfl) (fun b14 => ?_) (fun b14 => ?_)
  replace h := ite_t b14 h
  refine T_reg [] [0] [1, 2, 21] (mk 109 [(0, (db false))] []) _ (by kernel_rfl) (z2 zt) ?_
  refine T_ret ?_
  obtain rfl := some_inv h
  exact ret_here [(db false)] (by kernel_rfl) (.inl rfl)
  replace h := ite_f b14 h
  refine T_skip ?_
  obtain ⟨r_15, e16, h⟩ := bd_inv h
  rcases Bool.eq_false_or_eq_true (r_15) with b17 | b17
  replace h := ite_t b17 h
  obtain ⟨r_18, e19, h⟩ := bd_inv h
  rcases Bool.eq_false_or_eq_true (r_18) with b20 | b20
  replace h := ite_t b20 h
  obtain ⟨r_21, e22, h⟩ := bd_inv h
  rcases Bool.eq_false_or_eq_true (r_21 == 0) with b23 | b23
  replace h := ite_t b23 h
  obtain ⟨r_24, e25, h⟩ := bd_inv h
  rcases Bool.eq_false_or_eq_true (r_24 == 420) with b26 | b26
  replace h := ite_t b26 h
  obtain ⟨r_27, e28, h⟩ := bd_inv h
  refine T_reg (hl 25 [(4, (zd (B (r_15)))), (8, (zd (B (r_18)))), (9, (zd (B true))), (12, (zd (I r_21))), (14, (zd (B true))), (17, (zd (I r_24))), (19, (zd (B true))), (22, (zd (I r_27))), (24, (zd (B true)))]) [0] [91, 87, 1, 2, 21] (mk 109 [(0, (db (r_27 == 420)))] []) _ (by kernel_rfl) (z7 (zc (show dfill (fun i => some (i * 2, 2)) (List.replicate (2 * 2) .junk) [(0, [(.dat (I 4)), (.dat (I 51))]), (1, [(.dat (I 9)), (.dat (I 50))])] = some ((flat ([(⟨4, 51⟩ : Pay), (⟨9, 50⟩ : Pay)].map encPay)).map .dat) from rfl) (z1 (zc (g_ref42_Same_ret e16) (z2 (zc (gd_tt b17) (z1 (zc (gd_tt b17) (zc (show dfill (fun i => some (i * 1, 1)) (List.replicate (2 * 1) .junk) [(0, [(.dat (I 4))]), (1, [(.dat (I 9))])] = some ((flat ([(4 : Int), (9 : Int)].map elI)).map .dat) from rfl) (zc (gd_tt b17) (zc (g_ref42_SameInts_ret e19) (z1 (zc b17 (z2 (zc (gd_tt b20) (z1 (zc (gd_tt b20) (zc (g_prizes_Check_ret e22) (zc (gd_tt b20) (z2 (zc b20 (z2 (zc (gd_tt b23) (z1 (zc (gd_tt b23) (zc (g_prizes_Check_ret e25) (zc (gd_tt b23) (z2 (zc b23 (z2 (zc (gd_tt b26) (z1 (zc (gd_tt b26) (zc (show Ret Tryz.prog 14 [(.agg [(I 0), nilS, (I 0), (I 0), (I 0), (I 0)])] (I r_27) from (Ret.weak (g_prizes_Check_ret e28) ⟨(Weak.agg ⟨Weak.refl _, Weak.nil 3, Weak.refl _, Weak.refl _, Weak.refl _, Weak.refl _, trivial⟩), trivial⟩)) (zc (gd_tt b26) (z2 (zc b26 (z2 zt)))))))))))))))))))))))))))))))))))))) ?_
  refine T_ret ?_
  obtain rfl := some_inv h
  exact ret_here [(db (r_27 == 420))] (by kernel_rfl) (.inl rfl)
  replace h := ite_f b26 h
  refine T_reg [zn, zn, zn, zn, (zd (B (r_15))), zn, zn, zn, (zd (B (r_18))), (zd (B true)), zn, zn, (zd (I r_21)), zn, (zd (B true)), zn, zn, (zd (I r_24)), zn, (zd (B true)), zn, zg, zg, zg, (zd (B false))] [0] [91, 87, 1, 2, 21] (mk 109 [(0, (db false))] []) _ (by kernel_rfl) (z7 (zc (show dfill (fun i => some (i * 2, 2)) (List.replicate (2 * 2) .junk) [(0, [(.dat (I 4)), (.dat (I 51))]), (1, [(.dat (I 9)), (.dat (I 50))])] = some ((flat ([(⟨4, 51⟩ : Pay), (⟨9, 50⟩ : Pay)].map encPay)).map .dat) from rfl) (z1 (zc (g_ref42_Same_ret e16) (z2 (zc (gd_tt b17) (z1 (zc (gd_tt b17) (zc (show dfill (fun i => some (i * 1, 1)) (List.replicate (2 * 1) .junk) [(0, [(.dat (I 4))]), (1, [(.dat (I 9))])] = some ((flat ([(4 : Int), (9 : Int)].map elI)).map .dat) from rfl) (zc (gd_tt b17) (zc (g_ref42_SameInts_ret e19) (z1 (zc b17 (z2 (zc (gd_tt b20) (z1 (zc (gd_tt b20) (zc (g_prizes_Check_ret e22) (zc (gd_tt b20) (z2 (zc b20 (z2 (zc (gd_tt b23) (z1 (zc (gd_tt b23) (zc (g_prizes_Check_ret e25) (zc (gd_tt b23) (z2 (zc b23 (z2 (zc (gd_ft b26) (zc (gd_ft b26) (zc (gd_ft b26) (z1 (zc b26 (z2 zt)))))))))))))))))))))))))))))))))))) ?_
  refine T_ret ?_
  obtain rfl := some_inv h
  exact ret_here [(db false)] (by kernel_rfl) (.inl rfl)
  replace h := ite_f b23 h
  refine T_reg [zn, zn, zn, zn, (zd (B (r_15))), zn, zn, zn, (zd (B (r_18))), (zd (B true)), zn, zn, (zd (I r_21)), zn, (zd (B true)), zn, zg, zg, zg, (zd (B false)), zn, zg, zg, zg, (zd (B false))] [0] [91, 87, 1, 2, 21] (mk 109 [(0, (db false))] []) _ (by kernel_rfl) (z7 (zc (show dfill (fun i => some (i * 2, 2)) (List.replicate (2 * 2) .junk) [(0, [(.dat (I 4)), (.dat (I 51))]), (1, [(.dat (I 9)), (.dat (I 50))])] = some ((flat ([(⟨4, 51⟩ : Pay), (⟨9, 50⟩ : Pay)].map encPay)).map .dat) from rfl) (z1 (zc (g_ref42_Same_ret e16) (z2 (zc (gd_tt b17) (z1 (zc (gd_tt b17) (zc (show dfill (fun i => some (i * 1, 1)) (List.replicate (2 * 1) .junk) [(0, [(.dat (I 4))]), (1, [(.dat (I 9))])] = some ((flat ([(4 : Int), (9 : Int)].map elI)).map .dat) from rfl) (zc (gd_tt b17) (zc (g_ref42_SameInts_ret e19) (z1 (zc b17 (z2 (zc (gd_tt b20) (z1 (zc (gd_tt b20) (zc (g_prizes_Check_ret e22) (zc (gd_tt b20) (z2 (zc b20 (z2 (zc (gd_ft b23) (zc (gd_ft b23) (zc (gd_ft b23) (z1 (zc b23 (z2 (zc (gd_ft (rfl : false = false)) (zc (gd_ft (rfl : false = false)) (zc (gd_ft (rfl : false = false)) (z1 (zc (rfl : false = false) (z2 zt)))))))))))))))))))))))))))))))))) ?_
  refine T_ret ?_
  obtain rfl := some_inv h
  exact ret_here [(db false)] (by kernel_rfl) (.inl rfl)
  replace h := ite_f b20 h
  refine T_reg [zn, zn, zn, zn, (zd (B (r_15))), zn, zn, zn, (zd (B (r_18))), (zd (B true)), zn, zg, zg, zg, (zd (B false)), zn, zg, zg, zg, (zd (B false)), zn, zg, zg, zg, (zd (B false))] [0] [91, 87, 1, 2, 21] (mk 109 [(0, (db false))] []) _ (by kernel_rfl) (z7 (zc (show dfill (fun i => some (i * 2, 2)) (List.replicate (2 * 2) .junk) [(0, [(.dat (I 4)), (.dat (I 51))]), (1, [(.dat (I 9)), (.dat (I 50))])] = some ((flat ([(⟨4, 51⟩ : Pay), (⟨9, 50⟩ : Pay)].map encPay)).map .dat) from rfl) (z1 (zc (g_ref42_Same_ret e16) (z2 (zc (gd_tt b17) (z1 (zc (gd_tt b17) (zc (show dfill (fun i => some (i * 1, 1)) (List.replicate (2 * 1) .junk) [(0, [(.dat (I 4))]), (1, [(.dat (I 9))])] = some ((flat ([(4 : Int), (9 : Int)].map elI)).map .dat) from rfl) (zc (gd_tt b17) (zc (g_ref42_SameInts_ret e19) (z1 (zc b17 (z2 (zc (gd_ft b20) (zc (gd_ft b20) (zc (gd_ft b20) (z1 (zc b20 (z2 (zc (gd_ft (rfl : false = false)) (zc (gd_ft (rfl : false = false)) (zc (gd_ft (rfl : false = false)) (z1 (zc (rfl : false = false) (z2 (zc (gd_ft (rfl : false = false)) (zc (gd_ft (rfl : false = false)) (zc (gd_ft (rfl : false = false)) (z1 (zc (rfl : false = false) (z2 zt)))))))))))))))))))))))))))))))) ?_
  refine T_ret ?_
  obtain rfl := some_inv h
  exact ret_here [(db false)] (by kernel_rfl) (.inl rfl)
  replace h := ite_f b17 h
  refine T_reg [zn, zn, zn, zn, (zd (B (r_15))), zn, zg, zg, zg, (zd (B false)), zn, zg, zg, zg, (zd (B false)), zn, zg, zg, zg, (zd (B false)), zn, zg, zg, zg, (zd (B false))] [0] [87, 1, 2, 21] (mk 109 [(0, (db false))] []) _ (by kernel_rfl) (z7 (zc (show dfill (fun i => some (i * 2, 2)) (List.replicate (2 * 2) .junk) [(0, [(.dat (I 4)), (.dat (I 51))]), (1, [(.dat (I 9)), (.dat (I 50))])] = some ((flat ([(⟨4, 51⟩ : Pay), (⟨9, 50⟩ : Pay)].map encPay)).map .dat) from rfl) (z1 (zc (g_ref42_Same_ret e16) (z2 (zc (gd_ft b17) (zc (gd_ft b17) (zc (gd_ft b17) (z1 (zc b17 (z2 (zc (gd_ft (rfl : false = false)) (zc (gd_ft (rfl : false = false)) (zc (gd_ft (rfl : false = false)) (z1 (zc (rfl : false = false) (z2 (zc (gd_ft (rfl : false = false)) (zc (gd_ft (rfl : false = false)) (zc (gd_ft (rfl : false = false)) (z1 (zc (rfl : false = false) (z2 (zc (gd_ft (rfl : false = false)) (zc (gd_ft (rfl : false = false)) (zc (gd_ft (rfl : false = false)) (z1 (zc (rfl : false = false) (z2 zt))))))))))))))))))))))))))))) ?_
  refine T_ret ?_
  obtain rfl := some_inv h
  exact ret_here [(db false)] (by kernel_rfl) (.inl rfl)
  rcases Bool.eq_false_or_eq_true (r_3.2 != 0) with b29 | b29
  replace h := ite_t b29 h
  exact T_regJ [zn, zn, zn, zg, zg, (zd (B true)), zn, zg, zg, (zd (B true)), zn, zg, zg, zg, zg, (zd (B true)), zn, zg, zg, (zd (B true)), zn, zg, zg, (zd (B true))] [] [1, 2, 3, 5, 83] [] [1, 2, 21] _ _ (by kernel_rfl) (z6 (zc (gd_tf b29) (zc (gd_tf b29) (z1 (zc b29 (z2 (zc (gd_tf (rfl : true = true)) (zc (gd_tf (rfl : true = true)) (z1 (zc (rfl : true = true) (z2 (zc (gd_tf (rfl : true = true)) (zc (gd_tf (rfl : true = true)) (zc (gd_tf (rfl : true = true)) (zc (gd_tf (rfl : true = true)) (z1 (zc (rfl : true = true) (z2 (zc (gd_tf (rfl : true = true)) (zc (gd_tf (rfl : true = true)) (z1 (zc (rfl : true = true) (z2 (zc (gd_tf (rfl : true = true)) (zc (gd_tf (rfl : true = true)) (z1 (zc (rfl : true = true) zt))))))))))))))))))))))))))) (fun s hs => Exists.intro true (And.intro h hs))
  replace h := ite_f b29 h
  rcases Bool.eq_false_or_eq_true (r_5.2 != 0) with b30 | b30
  replace h := ite_t b30 h
  exact T_regJ [zn, zn, zn, zn, zn, (zd (B false)), zn, zg, zg, (zd (B true)), zn, zg, zg, zg, zg, (zd (B true)), zn, zg, zg, (zd (B true)), zn, zg, zg, (zd (B true))] [] [1, 2, 3, 5, 83] [] [1, 2, 21] _ _ (by kernel_rfl) (z6 (zc (gd_ff b29) (z1 (zc (gd_ff b29) (z2 (zc b29 (z2 (zc (gd_tf b30) (zc (gd_tf b30) (z1 (zc b30 (z2 (zc (gd_tf (rfl : true = true)) (zc (gd_tf (rfl : true = true)) (zc (gd_tf (rfl : true = true)) (zc (gd_tf (rfl : true = true)) (z1 (zc (rfl : true = true) (z2 (zc (gd_tf (rfl : true = true)) (zc (gd_tf (rfl : true = true)) (z1 (zc (rfl : true = true) (z2 (zc (gd_tf (rfl : true = true)) (zc (gd_tf (rfl : true = true)) (z1 (zc (rfl : true = true) zt)))))))))))))))))))))))))))) (fun s hs => Exists.intro true (And.intro h hs))
  replace h := ite_f b30 h
  rcases Bool.eq_false_or_eq_true (r_7.2 != 420) with b31 | b31
  replace h := ite_t b31 h
  exact T_regJ [zn, zn, zn, zn, zn, (zd (B false)), zn, zn, zn, (zd (B false)), zn, zg, zg, zg, zg, (zd (B true)), zn, zg, zg, (zd (B true)), zn, zg, zg, (zd (B true))] [] [1, 2, 3, 5, 83] [] [1, 2, 21] _ _ (by kernel_rfl) (z6 (zc (gd_ff b29) (z1 (zc (gd_ff b29) (z2 (zc b29 (z2 (zc (gd_ff b30) (z1 (zc (gd_ff b30) (z2 (zc b30 (z2 (zc (gd_tf b31) (zc (gd_tf b31) (zc (gd_tf b31) (zc (gd_tf b31) (z1 (zc b31 (z2 (zc (gd_tf (rfl : true = true)) (zc (gd_tf (rfl : true = true)) (z1 (zc (rfl : true = true) (z2 (zc (gd_tf (rfl : true = true)) (zc (gd_tf (rfl : true = true)) (z1 (zc (rfl : true = true) zt))))))))))))))))))))))))))))) (fun s hs => Exists.intro true (And.intro h hs))
  replace h := ite_f b31 h
  obtain ⟨r_32, e33, h⟩ := bd_inv h
  rcases Bool.eq_false_or_eq_true (r_9.2 != r_32) with b34 | b34
  replace h := ite_t b34 h
  exact T_regJ [zn, zn, zn, zn, zn, (zd (B false)), zn, zn, zn, (zd (B false)), zn, zn, zn, (zd (I r_32)), zn, (zd (B false)), zn, zg, zg, (zd (B true)), zn, zg, zg, (zd (B true))] [] [1, 2, 3, 5, 83] [] [1, 2, 21] _ _ (by kernel_rfl) (z6 (zc (gd_ff b29) (z1 (zc (gd_ff b29) (z2 (zc b29 (z2 (zc (gd_ff b30) (z1 (zc (gd_ff b30) (z2 (zc b30 (z2 (zc (gd_ff b31) (z1 (zc (gd_ff b31) (z1 (zc (gd_ff b31) (zc (show Ret Tryz.prog 27 [(.agg [(I 0), (I 0), nilS])] (I r_32) from (Ret.weak (g_table_Check_ret e33) ⟨(Weak.agg ⟨Weak.refl _, Weak.refl _, Weak.nil 14, trivial⟩), trivial⟩)) (zc (gd_ff b31) (z2 (zc b31 (z2 (zc (gd_tf b34) (zc (gd_tf b34) (z1 (zc b34 (z2 (zc (gd_tf (rfl : true = true)) (zc (gd_tf (rfl : true = true)) (z1 (zc (rfl : true = true) zt)))))))))))))))))))))))))))))))) (fun s hs => Exists.intro true (And.intro h hs))
  replace h := ite_f b34 h
  rcases Bool.eq_false_or_eq_true (r_9.2 == 0) with b35 | b35
  replace h := ite_t b35 h
  exact T_regJ (hl 24 [(5, (zd (B false))), (9, (zd (B false))), (13, (zd (I r_32))), (15, (zd (B false))), (19, (zd (B false))), (21, zg), (22, zg), (23, (zd (B true)))]) [] [1, 2, 3, 5, 83] [] [1, 2, 21] _ _ (by kernel_rfl) (z6 (zc (gd_ff b29) (z1 (zc (gd_ff b29) (z2 (zc b29 (z2 (zc (gd_ff b30) (z1 (zc (gd_ff b30) (z2 (zc b30 (z2 (zc (gd_ff b31) (z1 (zc (gd_ff b31) (z1 (zc (gd_ff b31) (zc (show Ret Tryz.prog 27 [(.agg [(I 0), (I 0), nilS])] (I r_32) from (Ret.weak (g_table_Check_ret e33) ⟨(Weak.agg ⟨Weak.refl _, Weak.refl _, Weak.nil 14, trivial⟩), trivial⟩)) (zc (gd_ff b31) (z2 (zc b31 (z2 (zc (gd_ff b34) (z1 (zc (gd_ff b34) (z2 (zc b34 (z2 (zc (gd_tf b35) (zc (gd_tf b35) (z1 (zc b35 zt))))))))))))))))))))))))))))))))) (fun s hs => Exists.intro true (And.intro h hs))
  replace h := ite_f b35 h
  exact T_regJ (hl 24 [(5, (zd (B false))), (9, (zd (B false))), (13, (zd (I r_32))), (15, (zd (B false))), (19, (zd (B false))), (23, (zd (B false)))]) [] [1, 2, 3, 5, 83] [] [1, 2, 21] _ _ (by kernel_rfl) (z6 (zc (gd_ff b29) (z1 (zc (gd_ff b29) (z2 (zc b29 (z2 (zc (gd_ff b30) (z1 (zc (gd_ff b30) (z2 (zc b30 (z2 (zc (gd_ff b31) (z1 (zc (gd_ff b31) (z1 (zc (gd_ff b31) (zc (show Ret Tryz.prog 27 [(.agg [(I 0), (I 0), nilS])] (I r_32) from (Ret.weak (g_table_Check_ret e33) ⟨(Weak.agg ⟨Weak.refl _, Weak.refl _, Weak.nil 14, trivial⟩), trivial⟩)) (zc (gd_ff b31) (z2 (zc b31 (z2 (zc (gd_ff b34) (z1 (zc (gd_ff b34) (z2 (zc b34 (z2 (zc (gd_ff b35) (z1 (zc (gd_ff b35) (z2 (zc b35 zt)))))))))))))))))))))))))))))))))) (fun s hs => Exists.intro (r_11.2.2 != 420) (And.intro h hs))

theorem g_ref42_Few_ret {tables_1 : List Tab} {schemes_2 : List Sch} {r : Bool} (h : g_ref42_Few tables_1 schemes_2 = some r) : Ret Tryz.prog 10 [(.sl 3 (tables_1.map encTab)), (.sl 6 (schemes_2.map encSch))] (B (r)) := by
  refine Ret.of_T Tryz.func10 (by kernel_rfl) rfl ?_
  refine T_turn [] [0, 1] [] (mk 41 [(0, (dt (.sl 3 (tables_1.map encTab)))), (1, (dt (.sl 6 (schemes_2.map encSch))))] []) (by kernel_rfl) ?_
  refine T_reg [] [0, 1] [] (mk 41 [(0, (dt (.sl 3 (tables_1.map encTab)))), (1, (dt (.sl 6 (schemes_2.map encSch))))] []) _ (by kernel_rfl) (z2 zt) ?_
  refine T_seq ?_
  refine T_seqJ (α := Bool) (fun (v_3 : Bool) => (mk 41 [(0, (dt (.sl 3 (tables_1.map encTab)))), (1, (dt (.sl 6 (schemes_2.map encSch)))), (14, (db (v_3)))] [])) (fun (v_3 : Bool) => g_ref42_Few_j1 tables_1 schemes_2 v_3 = some r) (fun v_3 h => ?_) ?_
  refine T_cond (v_3) (by kernel_rfl) (fun b4 => ?_) (fun b4 => ?_)
  replace h := ite_t b4 h
  refine T_reg [] [4] [] (mk 41 [(4, (db false))] []) _ (by kernel_rfl) (z2 zt) ?_
  refine T_ret ?_
  obtain rfl := some_inv h
  exact ret_here [(db false)] (by kernel_rfl) (.inl rfl)
  replace h := ite_f b4 h
  refine T_skip ?_
  refine T_seqJ (α := Unit) (fun (_ : Unit) => (mk 41 [(1, (dt (.sl 6 (schemes_2.map encSch))))] [])) (fun (_ : Unit) => g_ref42_Few_j2 schemes_2 = some r) (fun v h => ?_) ?_
  refine T_seqJ (α := Unit) (fun (_ : Unit) => (mk 41 [] [])) (fun (_ : Unit) => g_ref42_Few_j3 = some r) (fun v h => ?_) ?_
  refine T_reg [] [4] [] (mk 41 [(4, (db true))] []) _ (by kernel_rfl) (z2 zt) ?_
  refine T_ret ?_
  obtain rfl := some_inv h
  exact ret_here [(db true)] (by kernel_rfl) (.inl rfl)
  refine T_reg [] [1, 6] [] (mk 41 [(1, (dt (.sl 6 (schemes_2.map encSch)))), (6, (di 0))] []) _ (by kernel_rfl) (z2 zt) ?_
  refine T_block ?_
  refine T_arr [] [1, 6] [] [] _ (by kernel_rfl) (T_loopO (σ := Nat) (fun (i_5 : Nat) => (mk 41 [(1, (dt (.sl 6 (schemes_2.map encSch)))), (6, (di ((i_5 : Nat) : Int)))] [])) (g_ref42_Few_l4 schemes_2) 0 h (fun i_5 y1 hy1 h => ?_))
  refine T_seq ?_
  refine T_reg [zn, zn, (zd (I ((schemes_2.length : Nat) : Int)))] [1, 6, 31] [] (mk 41 [(1, (dt (.sl 6 (schemes_2.map encSch)))), (6, (di ((i_5 : Nat) : Int))), (31, (db (decide (((i_5 : Nat) : Int) < ((schemes_2.length : Nat) : Int)))))] []) _ (by kernel_rfl) (z5 (zc (len_s encSch schemes_2) (z2 zt))) ?_
  refine T_cond (decide (((i_5 : Nat) : Int) < ((schemes_2.length : Nat) : Int))) (by kernel_rfl) (fun b7 => ?_) (fun b7 => ?_)
  replace h := ite_t b7 h
  refine T_skip ?_
  refine T_seq ?_
  refine T_block ?_
  obtain ⟨x_8, e9, e10, e11, h⟩ := gn_inv encSch h
  refine T_reg [zn, zn, (zd (encSch x_8)), zn, zn, (zd (I ((x_8.p.length : Nat) : Int)))] [1, 6, 40] [] (mk 41 [(1, (dt (.sl 6 (schemes_2.map encSch)))), (6, (di ((i_5 : Nat) : Int))), (40, (db (decide (((x_8.p.length : Nat) : Int) > 30))))] []) _ (by kernel_rfl) (z5 (zc e9 (z5 (zc (len_s encPrize x_8.p) (z2 zt))))) ?_
  refine T_cond (decide (((x_8.p.length : Nat) : Int) > 30)) (by kernel_rfl) (fun b12 => ?_) (fun b12 => ?_)
  replace h := ite_t b12 h
  refine T_reg [] [4] [] (mk 41 [(4, (db false))] []) _ (by kernel_rfl) (z2 zt) ?_
  refine T_ret ?_
  replace h := up_inv h hy1
  obtain rfl := some_inv h
  exact ret_here [(db false)] (by kernel_rfl) (.inl rfl)
  replace h := ite_f b12 h
  refine T_skip ?_
  obtain ⟨c13, h⟩ := ckI_inv h
  exact T_regJ [zn, (zd (I ((i_5 + 1 : Nat) : Int)))] [] [1, 6] [] [] _ _ (by kernel_rfl) (z3 (zc c13 (z2 zt))) (fun s hs => Exists.intro (i_5 + 1) (And.intro h hs))
  replace h := ite_f b7 h
  refine T_exit ?_
  replace h := up_inv h hy1
  exact Exists.intro () (And.intro h (arr [] [] [] [] (by kernel_rfl)))
  refine T_reg [] [0, 1, 5] [] (mk 41 [(0, (dt (.sl 3 (tables_1.map encTab)))), (1, (dt (.sl 6 (schemes_2.map encSch)))), (5, (di 0))] []) _ (by kernel_rfl) (z2 zt) ?_
  refine T_block ?_
  refine T_arr [] [0, 1, 5] [] [] _ (by kernel_rfl) (T_loopO (σ := Nat) (fun (i_14 : Nat) => (mk 41 [(0, (dt (.sl 3 (tables_1.map encTab)))), (1, (dt (.sl 6 (schemes_2.map encSch)))), (5, (di ((i_14 : Nat) : Int)))] [])) (g_ref42_Few_l5 tables_1 schemes_2) 0 h (fun i_14 y1 hy1 h => ?_))
  refine T_seq ?_
  refine T_reg [zn, zn, (zd (I ((tables_1.length : Nat) : Int)))] [0, 1, 5, 18] [] (mk 41 [(0, (dt (.sl 3 (tables_1.map encTab)))), (1, (dt (.sl 6 (schemes_2.map encSch)))), (5, (di ((i_14 : Nat) : Int))), (18, (db (decide (((i_14 : Nat) : Int) < ((tables_1.length : Nat) : Int)))))] []) _ (by kernel_rfl) (z5 (zc (len_s encTab tables_1) (z2 zt))) ?_
  refine T_cond (decide (((i_14 : Nat) : Int) < ((tables_1.length : Nat) : Int))) (by kernel_rfl) (fun b16 => ?_) (fun b16 => ?_)
  replace h := ite_t b16 h
  refine T_skip ?_
  refine T_seq ?_
  refine T_block ?_
  obtain ⟨x_17, e18, e19, e20, h⟩ := gn_inv encTab h
  refine T_reg [zn, zn, (zd (encTab x_17)), zn, zn, (zd (I ((x_17.l.length : Nat) : Int)))] [0, 1, 5, 27] [] (mk 41 [(0, (dt (.sl 3 (tables_1.map encTab)))), (1, (dt (.sl 6 (schemes_2.map encSch)))), (5, (di ((i_14 : Nat) : Int))), (27, (db (decide (((x_17.l.length : Nat) : Int) > 30))))] []) _ (by kernel_rfl) (z5 (zc e18 (z5 (zc (len_s encPlace x_17.l) (z2 zt))))) ?_
  refine T_cond (decide (((x_17.l.length : Nat) : Int) > 30)) (by kernel_rfl) (fun b21 => ?_) (fun b21 => ?_)
  replace h := ite_t b21 h
  refine T_reg [] [4] [] (mk 41 [(4, (db false))] []) _ (by kernel_rfl) (z2 zt) ?_
  refine T_ret ?_
  replace h := up_inv h hy1
  obtain rfl := some_inv h
  exact ret_here [(db false)] (by kernel_rfl) (.inl rfl)
  replace h := ite_f b21 h
  refine T_skip ?_
  obtain ⟨c22, h⟩ := ckI_inv h
  exact T_regJ [zn, (zd (I ((i_14 + 1 : Nat) : Int)))] [] [0, 1, 5] [] [] _ _ (by kernel_rfl) (z3 (zc c22 (z2 zt))) (fun s hs => Exists.intro (i_14 + 1) (And.intro h hs))
  replace h := ite_f b16 h
  refine T_exit ?_
  replace h := up_inv h hy1
  exact Exists.intro () (And.intro h (arr [] [1] [] [] (by kernel_rfl)))
  rcases Bool.eq_false_or_eq_true (decide (((tables_1.length : Nat) : Int) > 5)) with b23 | b23
  replace h := ite_t b23 h
  exact T_regJ [zn, (zd (I ((tables_1.length : Nat) : Int))), zn, zn, zg, zg, zg, (zd (B true))] [] [0, 1, 14] [] [] _ _ (by kernel_rfl) (z3 (zc (len_s encTab tables_1) (z4 (zc (gd_tf b23) (zc (gd_tf b23) (zc (gd_tf b23) (z1 (zc b23 zt)))))))) (fun s hs => Exists.intro true (And.intro h hs))
  replace h := ite_f b23 h
  exact T_regJ [zn, (zd (I ((tables_1.length : Nat) : Int))), zn, zn, zn, (zd (I ((schemes_2.length : Nat) : Int))), zn, (zd (B false))] [] [0, 1, 14] [] [] _ _ (by kernel_rfl) (z3 (zc (len_s encTab tables_1) (z4 (zc (gd_ff b23) (z1 (zc (gd_ff b23) (zc (len_s encSch schemes_2) (zc (gd_ff b23) (z2 (zc b23 zt)))))))))) (fun s hs => Exists.intro (decide (((schemes_2.length : Nat) : Int) > 5)) (And.intro h hs))

theorem g_ref20_numbers_ret {r_1 : Row} {r : List Int} (h : g_ref20_numbers r_1 = some r) : Ret Tryz.prog 88 [(encRow r_1)] (.sl 1 (r.map elI)) := by
  refine Ret.of_T Tryz.func88 (by kernel_rfl) rfl ?_
  refine T_turn [] [0] [] (mk 22 [(0, (.agg (qRow r_1)))] []) (by kernel_rfl) ?_
  refine T_reg [] [1] [] (mk 22 [(1, (rf 1 0))] [(1, (.var (qRow r_1)))]) _ (by kernel_rfl) (z4 zt) ?_
  refine T_reg [] [2] [1] (mk 22 [(2, (ow 21))] [(21, (.row 3 1 ([r_1.pl, r_1.wo, r_1.dr, r_1.lo, r_1.fo, r_1.ag, r_1.af, r_1.aw, r_1.ca].map elI)))]) _ (by kernel_rfl) (z8 (z8 (z8 (z8 (z5 (zc (show dfill (fun i => some (i * 1, 1)) (List.replicate (9 * 1) .junk) [(0, [(.dat (I r_1.pl))]), (1, [(.dat (I r_1.wo))]), (2, [(.dat (I r_1.dr))]), (3, [(.dat (I r_1.lo))]), (4, [(.dat (I r_1.fo))]), (5, [(.dat (I r_1.ag))]), (6, [(.dat (I r_1.af))]), (7, [(.dat (I r_1.aw))]), (8, [(.dat (I r_1.ca))])] = some ((flat ([r_1.pl, r_1.wo, r_1.dr, r_1.lo, r_1.fo, r_1.ag, r_1.af, r_1.aw, r_1.ca].map elI)).map .dat) from rfl) (z2 zt))))))) ?_
  refine T_ret ?_
  obtain rfl := some_inv h
  exact ret_here [(ow 21)] (by kernel_rfl) rfl

end Go.Proofs.YtoiiblkncbnlaaaGreat

/-
  Go functions as partial functions, printed by auto.py: what each returns when its partial function has a value. Conditions: those of each theorem.
-/
namespace Go.Proofs.YtoiiblkncbnlaaaGreat
open Go.DL
set_option maxRecDepth 100000
set_option maxHeartbeats 4000000
set_option linter.unusedVariables false
set_option linter.unusedSimpArgs false
theorem g_ref20_Check_ret {t_1 : Tab} {r : Int} (h : g_ref20_Check t_1 = some r) : Ret Tryz.prog 62 [(encTab t_1)] (I r) := by
  refine Ret.of_T Tryz.func62 (by kernel_rfl) rfl ?_
  refine T_turn [] [0] [] (mk 184 [(0, (.agg (qTab t_1)))] []) (by kernel_rfl) ?_
  refine T_reg [] [1] [] (mk 184 [(1, (rf 1 0))] [(1, (.var (qTab t_1)))]) _ (by kernel_rfl) (z4 zt) ?_
  refine T_seq ?_
  refine T_seqJ (α := Bool) (fun (v_2 : Bool) => (mk 184 [(1, (rf 1 0)), (38, (db (v_2)))] [(1, (.var (qTab t_1)))])) (fun (v_2 : Bool) => g_ref20_Check_j1 t_1 v_2 = some r) (fun v_2 h => ?_) ?_
  refine T_cond (v_2) (by kernel_rfl) (fun b3 => ?_) (fun b3 => ?_)
  replace h := ite_t b3 h
  refine T_reg [] [2] [1] (mk 184 [(2, (di 1))] []) _ (by kernel_rfl) (z2 zt) ?_
  refine T_ret ?_
  obtain rfl := some_inv h
  exact ret_here [(di 1)] (by kernel_rfl) (.inl rfl)
  replace h := ite_f b3 h
  refine T_skip ?_
  refine T_seqJ (α := Unit) (fun (_ : Unit) => (mk 184 [] [])) (fun (_ : Unit) => g_ref20_Check_j2 = some r) (fun v h => ?_) ?_
  refine T_reg [] [2] [] (mk 184 [(2, (di 0))] []) _ (by kernel_rfl) (z2 zt) ?_
  refine T_ret ?_
  obtain rfl := some_inv h
  exact ret_here [(di 0)] (by kernel_rfl) (.inl rfl)
  refine T_reg [] [1, 3] [] (mk 184 [(1, (rf 1 0)), (3, (di 0))] [(1, (.var (qTab t_1)))]) _ (by kernel_rfl) (z2 zt) ?_
  refine T_block ?_
  refine T_arr [] [1, 3] [] [1] _ (by kernel_rfl) (T_loopO (σ := Nat) (fun (i_4 : Nat) => (mk 184 [(1, (rf 1 0)), (3, (di ((i_4 : Nat) : Int)))] [(1, (.var (qTab t_1)))])) (g_ref20_Check_l3 t_1) 0 h (fun i_4 y1 hy1 h => ?_))
  refine T_seq ?_
  refine T_reg [zn, zn, zn, (zd (I ((t_1.l.length : Nat) : Int)))] [1, 3, 43] [] (mk 184 [(1, (rf 1 0)), (3, (di ((i_4 : Nat) : Int))), (43, (db (decide (((i_4 : Nat) : Int) < ((t_1.l.length : Nat) : Int)))))] [(1, (.var (qTab t_1)))]) _ (by kernel_rfl) (z7 (zc (len_s encPlace t_1.l) (z2 zt))) ?_
  refine T_cond (decide (((i_4 : Nat) : Int) < ((t_1.l.length : Nat) : Int))) (by kernel_rfl) (fun b6 => ?_) (fun b6 => ?_)
  replace h := ite_t b6 h
  refine T_skip ?_
  refine T_seqJ (α := Unit) (fun (_ : Unit) => (mk 184 [(1, (rf 1 0)), (3, (di ((i_4 : Nat) : Int)))] [(1, (.var (qTab t_1)))])) (fun (_ : Unit) => g_ref20_Check_j4 i_4 t_1 = some y1) (fun v h => ?_) ?_
  obtain ⟨c7, h⟩ := ckI_inv h
  exact T_regJ [zn, (zd (I ((i_4 + 1 : Nat) : Int)))] [] [1, 3] [] [1] _ _ (by kernel_rfl) (z3 (zc c7 (z2 zt))) (fun s hs => Exists.intro (i_4 + 1) (And.intro h hs))
  refine T_block ?_
  obtain ⟨x_8, e9, e10, e11, h⟩ := gn_inv encPlace h
  refine T_reg [zn, zn, zn, (zd (encPlace x_8))] [1, 3, 4] [] (mk 184 [(1, (rf 1 0)), (3, (di ((i_4 : Nat) : Int))), (4, (rf 4 0))] [(4, (.var (qPlace x_8))), (1, (.var (qTab t_1)))]) _ (by kernel_rfl) (z7 (zc e9 (z6 zt))) ?_
  refine T_seqJ (α := Bool) (fun (tied_12 : Bool) => (mk 184 [(1, (rf 1 0)), (3, (di ((i_4 : Nat) : Int))), (4, (rf 4 0)), (5, (db (tied_12)))] [(1, (.var (qTab t_1))), (4, (.var (qPlace x_8)))])) (fun (tied_12 : Bool) => g_ref20_Check_j5 i_4 x_8 t_1 tied_12 = some y1) (fun tied_12 h => ?_) ?_
  refine T_seq ?_
  refine T_seqJ (α := Bool) (fun (v_13 : Bool) => (mk 184 [(1, (rf 1 0)), (3, (di ((i_4 : Nat) : Int))), (4, (rf 4 0)), (5, (db (tied_12))), (90, (db (v_13)))] [(1, (.var (qTab t_1))), (4, (.var (qPlace x_8)))])) (fun (v_13 : Bool) => g_ref20_Check_j6 tied_12 x_8 i_4 t_1 v_13 = some y1) (fun v_13 h => ?_) ?_
  refine T_cond (v_13) (by kernel_rfl) (fun b14 => ?_) (fun b14 => ?_)
  replace h := ite_t b14 h
  refine T_reg [] [2] [1, 4] (mk 184 [(2, (di 1))] []) _ (by kernel_rfl) (z2 zt) ?_
  refine T_ret ?_
  replace h := up_inv h hy1
  obtain rfl := some_inv h
  exact ret_here [(di 1)] (by kernel_rfl) (.inl rfl)
  replace h := ite_f b14 h
  refine T_skip ?_
  refine T_seq ?_
  refine T_seqJ (α := Bool) (fun (v_15 : Bool) => (mk 184 [(1, (rf 1 0)), (3, (di ((i_4 : Nat) : Int))), (4, (rf 4 0)), (118, (db (v_15)))] [(1, (.var (qTab t_1))), (4, (.var (qPlace x_8)))])) (fun (v_15 : Bool) => g_ref20_Check_j7 x_8 i_4 t_1 v_15 = some y1) (fun v_15 h => ?_) ?_
  refine T_cond (v_15) (by kernel_rfl) (fun b16 => ?_) (fun b16 => ?_)
  replace h := ite_t b16 h
  refine T_reg [] [2] [1, 4] (mk 184 [(2, (di 1))] []) _ (by kernel_rfl) (z2 zt) ?_
  refine T_ret ?_
  replace h := up_inv h hy1
  obtain rfl := some_inv h
  exact ret_here [(di 1)] (by kernel_rfl) (.inl rfl)
  replace h := ite_f b16 h
  refine T_skip ?_
  refine T_seq ?_
  refine T_seqJ (α := Bool) (fun (v_17 : Bool) => (mk 184 [(1, (rf 1 0)), (3, (di ((i_4 : Nat) : Int))), (4, (rf 4 0)), (146, (db (v_17)))] [(1, (.var (qTab t_1))), (4, (.var (qPlace x_8)))])) (fun (v_17 : Bool) => g_ref20_Check_j8 x_8 i_4 t_1 v_17 = some y1) (fun v_17 h => ?_) ?_
  refine T_cond (v_17) (by kernel_rfl) (fun b18 => ?_) (fun b18 => ?_)
  replace h := ite_t b18 h
  refine T_reg [] [2] [1, 4] (mk 184 [(2, (di 1))] []) _ (by kernel_rfl) (z2 zt) ?_
  refine T_ret ?_
  replace h := up_inv h hy1
  obtain rfl := some_inv h
  exact ret_here [(di 1)] (by kernel_rfl) (.inl rfl)
  replace h := ite_f b18 h
  refine T_skip ?_
  obtain ⟨r_19, e20, h⟩ := bd_inv h
  refine T_reg [zn, zn, (zd (.sl 1 (r_19.map elI)))] [1, 3, 4, 6] [] (mk 184 [(1, (rf 1 0)), (3, (di ((i_4 : Nat) : Int))), (4, (rf 4 0)), (6, (dt (.sl 1 (r_19.map elI))))] [(1, (.var (qTab t_1))), (4, (.var (qPlace x_8)))]) _ (by kernel_rfl) (z5 (zc (g_ref20_numbers_ret e20) (z2 zt))) ?_
  refine T_seqJ (α := Unit) (fun (_ : Unit) => (mk 184 [(1, (rf 1 0)), (3, (di ((i_4 : Nat) : Int))), (4, (rf 4 0))] [(1, (.var (qTab t_1))), (4, (.var (qPlace x_8)))])) (fun (_ : Unit) => g_ref20_Check_j9 i_4 t_1 x_8 = some y1) (fun v h => ?_) ?_
  refine T_reg [] [1, 3, 4, 8] [] (mk 184 [(1, (rf 1 0)), (3, (di ((i_4 : Nat) : Int))), (4, (rf 4 0)), (8, (di 0))] [(1, (.var (qTab t_1))), (4, (.var (qPlace x_8)))]) _ (by kernel_rfl) (z2 zt) ?_
  refine T_block ?_
  refine T_arr [] [1, 3, 4, 8] [] [1, 4] _ (by kernel_rfl) (T_loopO (σ := Nat) (fun (k_21 : Nat) => (mk 184 [(1, (rf 1 0)), (3, (di ((i_4 : Nat) : Int))), (4, (rf 4 0)), (8, (di ((k_21 : Nat) : Int)))] [(1, (.var (qTab t_1))), (4, (.var (qPlace x_8)))])) (g_ref20_Check_l10 i_4 t_1 x_8) 0 h (fun k_21 y2 hy2 h => ?_))
  refine T_seq ?_
  refine T_reg [] [1, 3, 4, 8, 170] [] (mk 184 [(1, (rf 1 0)), (3, (di ((i_4 : Nat) : Int))), (4, (rf 4 0)), (8, (di ((k_21 : Nat) : Int))), (170, (db (decide (((k_21 : Nat) : Int) < ((i_4 : Nat) : Int)))))] [(1, (.var (qTab t_1))), (4, (.var (qPlace x_8)))]) _ (by kernel_rfl) (z6 zt) ?_
  refine T_cond (decide (((k_21 : Nat) : Int) < ((i_4 : Nat) : Int))) (by kernel_rfl) (fun b23 => ?_) (fun b23 => ?_)
  replace h := ite_t b23 h
  refine T_skip ?_
  refine T_seq ?_
  refine T_block ?_
  obtain ⟨x_24, e25, e26, e27, h⟩ := gn_inv encPlace h
  refine T_regD 11 [zn, zn, zn, (zd (encPlace x_24))] [1, 3, 4, 8, 183] [] (mk 184 [(1, (rf 1 0)), (3, (di ((i_4 : Nat) : Int))), (4, (rf 4 0)), (8, (di ((k_21 : Nat) : Int))), (183, (db (x_24.r.c == x_8.r.c)))] [(1, (.var (qTab t_1))), (4, (.var (qPlace x_8)))]) _ (by kernel_rfl) (by kernel_rfl) (by kernel_rfl) (zc (z7 (zc e25 (z8 (z6 zt)))) zt) ?_
  refine T_cond (x_24.r.c == x_8.r.c) (by kernel_rfl) (fun b28 => ?_) (fun b28 => ?_)
  replace h := ite_t b28 h
  refine T_reg [] [2] [1, 4] (mk 184 [(2, (di 1))] []) _ (by kernel_rfl) (z2 zt) ?_
  refine T_ret ?_
  replace h := up_inv h hy2
  replace h := up_inv h hy1
  obtain rfl := some_inv h
  exact ret_here [(di 1)] (by kernel_rfl) (.inl rfl)
  replace h := ite_f b28 h
  refine T_skip ?_
  obtain ⟨c29, h⟩ := ckI_inv h
  exact T_regJ [zn, (zd (I ((k_21 + 1 : Nat) : Int)))] [] [1, 3, 4, 8] [] [1, 4] _ _ (by kernel_rfl) (z3 (zc c29 (z2 zt))) (fun s hs => Exists.intro (k_21 + 1) (And.intro h hs))
  replace h := ite_f b23 h
  refine T_exit ?_
  replace h := up_inv h hy2
  exact Exists.intro () (And.intro h (arr [] [1, 3] [4] [1] (by kernel_rfl)))
  refine T_reg [] [1, 3, 4, 6, 7] [] (mk 184 [(1, (rf 1 0)), (3, (di ((i_4 : Nat) : Int))), (4, (rf 4 0)), (6, (dt (.sl 1 (r_19.map elI)))), (7, (di 0))] [(1, (.var (qTab t_1))), (4, (.var (qPlace x_8)))]) _ (by kernel_rfl) (z2 zt) ?_
  refine T_block ?_
  refine T_arr [] [1, 3, 4, 6, 7] [] [1, 4] _ (by kernel_rfl) (T_loopO (σ := Nat) (fun (k_30 : Nat) => (mk 184 [(1, (rf 1 0)), (3, (di ((i_4 : Nat) : Int))), (4, (rf 4 0)), (6, (dt (.sl 1 (r_19.map elI)))), (7, (di ((k_30 : Nat) : Int)))] [(1, (.var (qTab t_1))), (4, (.var (qPlace x_8)))])) (g_ref20_Check_l11 r_19 i_4 t_1 x_8) 0 h (fun k_30 y2 hy2 h => ?_))
  refine T_seq ?_
  refine T_reg [zn, zn, (zd (I ((r_19.length : Nat) : Int)))] [1, 3, 4, 6, 7, 153] [] (mk 184 [(1, (rf 1 0)), (3, (di ((i_4 : Nat) : Int))), (4, (rf 4 0)), (6, (dt (.sl 1 (r_19.map elI)))), (7, (di ((k_30 : Nat) : Int))), (153, (db (decide (((k_30 : Nat) : Int) < ((r_19.length : Nat) : Int)))))] [(1, (.var (qTab t_1))), (4, (.var (qPlace x_8)))]) _ (by kernel_rfl) (z5 (zc (len_s elI r_19) (z2 zt))) ?_
  refine T_cond (decide (((k_30 : Nat) : Int) < ((r_19.length : Nat) : Int))) (by kernel_rfl) (fun b32 => ?_) (fun b32 => ?_)
  replace h := ite_t b32 h
  refine T_skip ?_
  refine T_seq ?_
  refine T_block ?_
  refine T_seqJ (α := Bool) (fun (v_33 : Bool) => (mk 184 [(1, (rf 1 0)), (3, (di ((i_4 : Nat) : Int))), (4, (rf 4 0)), (6, (dt (.sl 1 (r_19.map elI)))), (7, (di ((k_30 : Nat) : Int))), (167, (db (v_33)))] [(1, (.var (qTab t_1))), (4, (.var (qPlace x_8)))])) (fun (v_33 : Bool) => g_ref20_Check_j12 k_30 i_4 r_19 t_1 x_8 v_33 = some y2) (fun v_33 h => ?_) ?_
  refine T_cond (v_33) (by kernel_rfl) (fun b34 => ?_) (fun b34 => ?_)
  replace h := ite_t b34 h
  refine T_reg [] [2] [1, 4] (mk 184 [(2, (di 1))] []) _ (by kernel_rfl) (z2 zt) ?_
  refine T_ret ?_
  replace h := up_inv h hy2
  replace h := up_inv h hy1
  obtain rfl := some_inv h
  exact ret_here [(di 1)] (by kernel_rfl) (.inl rfl)
  replace h := ite_f b34 h
  refine T_skip ?_
  obtain ⟨c35, h⟩ := ckI_inv h
  exact T_regJ [zn, (zd (I ((k_30 + 1 : Nat) : Int)))] [] [1, 3, 4, 6, 7] [] [1, 4] _ _ (by kernel_rfl) (z3 (zc c35 (z2 zt))) (fun s hs => Exists.intro (k_30 + 1) (And.intro h hs))
  obtain ⟨x_36, e37, e38, e39, h⟩ := gn_inv elI h
  rcases Bool.eq_false_or_eq_true (decide (x_36 < 0)) with b40 | b40
  replace h := ite_t b40 h
  exact T_regJ [zn, zn, (zd (I x_36)), zn, zn, zn, zg, zg, zg, zg, zg, (zd (B true))] [] [1, 3, 4, 6, 7, 167] [] [1, 4] _ _ (by kernel_rfl) (z5 (zc e37 (z6 (zc (gd_tf b40) (zc (gd_tf b40) (zc (gd_tf b40) (zc (gd_tf b40) (zc (gd_tf b40) (z1 (zc b40 zt)))))))))) (fun s hs => Exists.intro true (And.intro h hs))
  replace h := ite_f b40 h
  exact T_regJ (hl 12 [(2, (zd (I x_36))), (8, (zd (I x_36))), (11, (zd (B false)))]) [] [1, 3, 4, 6, 7, 167] [] [1, 4] _ _ (by kernel_rfl) (z5 (zc e37 (z6 (zc (gd_ff b40) (z1 (zc (gd_ff b40) (z1 (zc (gd_ff b40) (zc e37 (zc (gd_ff b40) (z1 (zc (gd_ff b40) (z2 (zc b40 zt)))))))))))))) (fun s hs => Exists.intro (decide (x_36 > 9999)) (And.intro h hs))
  replace h := ite_f b32 h
  refine T_exit ?_
  replace h := up_inv h hy2
  exact Exists.intro () (And.intro h (arr [] [1, 3, 4] [] [1, 4] (by kernel_rfl)))
  rcases Bool.eq_false_or_eq_true (decide (((x_8.z.length : Nat) : Int) > 24)) with b41 | b41
  replace h := ite_t b41 h
  exact T_regJ [zn, zn, zn, zn, zn, zg, zg, zg, zg, (zd (B true)), zn, zg, zg, zg, zg, (zd (B true)), zn, zg, zg, zg, zg, (zd (B true)), zn, zg, zg, zg, zg, (zd (B true))] [] [1, 3, 4, 146] [] [1, 4] _ _ (by kernel_rfl) (z8 (z2 (zc (gd_tf b41) (zc (gd_tf b41) (zc (gd_tf b41) (zc (gd_tf b41) (z1 (zc b41 (z2 (zc (gd_tf (rfl : true = true)) (zc (gd_tf (rfl : true = true)) (zc (gd_tf (rfl : true = true)) (zc (gd_tf (rfl : true = true)) (z1 (zc (rfl : true = true) (z2 (zc (gd_tf (rfl : true = true)) (zc (gd_tf (rfl : true = true)) (zc (gd_tf (rfl : true = true)) (zc (gd_tf (rfl : true = true)) (z1 (zc (rfl : true = true) (z2 (zc (gd_tf (rfl : true = true)) (zc (gd_tf (rfl : true = true)) (zc (gd_tf (rfl : true = true)) (zc (gd_tf (rfl : true = true)) (z1 (zc (rfl : true = true) zt))))))))))))))))))))))))))))) (fun s hs => Exists.intro true (And.intro h hs))
  replace h := ite_f b41 h
  rcases Bool.eq_false_or_eq_true (decide (x_8.r.c < 0)) with b42 | b42
  replace h := ite_t b42 h
  exact T_regJ [zn, zn, zn, zn, zn, zn, zn, zn, zn, (zd (B false)), zn, zg, zg, zg, zg, (zd (B true)), zn, zg, zg, zg, zg, (zd (B true)), zn, zg, zg, zg, zg, (zd (B true))] [] [1, 3, 4, 146] [] [1, 4] _ _ (by kernel_rfl) (z8 (z2 (zc (gd_ff b41) (z1 (zc (gd_ff b41) (z1 (zc (gd_ff b41) (z1 (zc (gd_ff b41) (z2 (zc b41 (z2 (zc (gd_tf b42) (zc (gd_tf b42) (zc (gd_tf b42) (zc (gd_tf b42) (z1 (zc b42 (z2 (zc (gd_tf (rfl : true = true)) (zc (gd_tf (rfl : true = true)) (zc (gd_tf (rfl : true = true)) (zc (gd_tf (rfl : true = true)) (z1 (zc (rfl : true = true) (z2 (zc (gd_tf (rfl : true = true)) (zc (gd_tf (rfl : true = true)) (zc (gd_tf (rfl : true = true)) (zc (gd_tf (rfl : true = true)) (z1 (zc (rfl : true = true) zt)))))))))))))))))))))))))))))))) (fun s hs => Exists.intro true (And.intro h hs))
  replace h := ite_f b42 h
  rcases Bool.eq_false_or_eq_true (decide (x_8.r.c ≥ 192)) with b43 | b43
  replace h := ite_t b43 h
  exact T_regJ [zn, zn, zn, zn, zn, zn, zn, zn, zn, (zd (B false)), zn, zn, zn, zn, zn, (zd (B false)), zn, zg, zg, zg, zg, (zd (B true)), zn, zg, zg, zg, zg, (zd (B true))] [] [1, 3, 4, 146] [] [1, 4] _ _ (by kernel_rfl) (z8 (z2 (zc (gd_ff b41) (z1 (zc (gd_ff b41) (z1 (zc (gd_ff b41) (z1 (zc (gd_ff b41) (z2 (zc b41 (z2 (zc (gd_ff b42) (z1 (zc (gd_ff b42) (z1 (zc (gd_ff b42) (z1 (zc (gd_ff b42) (z2 (zc b42 (z2 (zc (gd_tf b43) (zc (gd_tf b43) (zc (gd_tf b43) (zc (gd_tf b43) (z1 (zc b43 (z2 (zc (gd_tf (rfl : true = true)) (zc (gd_tf (rfl : true = true)) (zc (gd_tf (rfl : true = true)) (zc (gd_tf (rfl : true = true)) (z1 (zc (rfl : true = true) zt))))))))))))))))))))))))))))))))))) (fun s hs => Exists.intro true (And.intro h hs))
  replace h := ite_f b43 h
  rcases Bool.eq_false_or_eq_true (decide (x_8.r.po < (-99999))) with b44 | b44
  replace h := ite_t b44 h
  exact T_regJ (hl 28 [(9, (zd (B false))), (15, (zd (B false))), (21, (zd (B false))), (23, zg), (24, zg), (25, zg), (26, zg), (27, (zd (B true)))]) [] [1, 3, 4, 146] [] [1, 4] _ _ (by kernel_rfl) (z8 (z2 (zc (gd_ff b41) (z1 (zc (gd_ff b41) (z1 (zc (gd_ff b41) (z1 (zc (gd_ff b41) (z2 (zc b41 (z2 (zc (gd_ff b42) (z1 (zc (gd_ff b42) (z1 (zc (gd_ff b42) (z1 (zc (gd_ff b42) (z2 (zc b42 (z2 (zc (gd_ff b43) (z1 (zc (gd_ff b43) (z1 (zc (gd_ff b43) (z1 (zc (gd_ff b43) (z2 (zc b43 (z2 (zc (gd_tf b44) (zc (gd_tf b44) (zc (gd_tf b44) (zc (gd_tf b44) (z1 (zc b44 zt)))))))))))))))))))))))))))))))))))))) (fun s hs => Exists.intro true (And.intro h hs))
  replace h := ite_f b44 h
  exact T_regJ (hl 28 [(9, (zd (B false))), (15, (zd (B false))), (21, (zd (B false))), (27, (zd (B false)))]) [] [1, 3, 4, 146] [] [1, 4] _ _ (by kernel_rfl) (z8 (z2 (zc (gd_ff b41) (z1 (zc (gd_ff b41) (z1 (zc (gd_ff b41) (z1 (zc (gd_ff b41) (z2 (zc b41 (z2 (zc (gd_ff b42) (z1 (zc (gd_ff b42) (z1 (zc (gd_ff b42) (z1 (zc (gd_ff b42) (z2 (zc b42 (z2 (zc (gd_ff b43) (z1 (zc (gd_ff b43) (z1 (zc (gd_ff b43) (z1 (zc (gd_ff b43) (z2 (zc b43 (z2 (zc (gd_ff b44) (z1 (zc (gd_ff b44) (z1 (zc (gd_ff b44) (z1 (zc (gd_ff b44) (z2 (zc b44 zt))))))))))))))))))))))))))))))))))))))))) (fun s hs => Exists.intro (decide (x_8.r.po > 99999)) (And.intro h hs))
  rcases Bool.eq_false_or_eq_true (tied_12) with b45 | b45
  replace h := ite_t b45 h
  rcases Bool.eq_false_or_eq_true (x_8.b != 0) with b46 | b46
  replace h := ite_t b46 h
  exact T_regJ [zn, zn, zg, zg, (zd (B true)), zn, zn, zn, zn, (zd (B true)), zn, zg, zg, zg, zn, zn, zg, zg, zn, zn, zn, zn, zn, zn, zn, zn, zg, (zd (B true))] [] [1, 3, 4, 118] [] [1, 4] _ _ (by kernel_rfl) (z4 (zc (gd_tf b45) (zc (gd_tf b45) (z1 (zc b45 (z2 (zc (gd_tt (rfl : true = true)) (z1 (zc (gd_tt (rfl : true = true)) (z1 (zc (gd_tt (rfl : true = true)) (z2 (zc (rfl : true = true) (z2 (zc (gd_tf b46) (zc (gd_tf b46) (zc (gd_tf b46) (z2 (zc (gd_tf b46) (zc (gd_tf b46) (z8 (zc (gd_tf b46) (z1 (zc b46 zt)))))))))))))))))))))))) (fun s hs => Exists.intro true (And.intro h hs))
  replace h := ite_f b46 h
  exact T_regJ [zn, zn, zg, zg, (zd (B true)), zn, zn, zn, zn, (zd (B true)), zn, zn, zn, zn, zg, zg, (zd (B false)), zn, zg, zg, zg, zg, zn, zn, zn, zg, (zd (B false)), (zd (B false))] [] [1, 3, 4, 118] [] [1, 4] _ _ (by kernel_rfl) (z4 (zc (gd_tf b45) (zc (gd_tf b45) (z1 (zc b45 (z2 (zc (gd_tt (rfl : true = true)) (z1 (zc (gd_tt (rfl : true = true)) (z1 (zc (gd_tt (rfl : true = true)) (z2 (zc (rfl : true = true) (z2 (zc (gd_ff b46) (z1 (zc (gd_ff b46) (z1 (zc (gd_ff b46) (z1 (zc (gd_ft (f_not b45)) (zc (gd_ft (f_not b45)) (zc (gd_ff b46) (zc (f_not b45) (zc (gd_ff b46) (z1 (zc (gd_ft (rfl : false = false)) (zc (gd_ft (rfl : false = false)) (zc (gd_ft (rfl : false = false)) (zc (gd_ft (rfl : false = false)) (z3 (zc (gd_ft (rfl : false = false)) (zc (gd_ff b46) (zc (rfl : false = false) (z1 (zc b46 zt)))))))))))))))))))))))))))))))))))) (fun s hs => Exists.intro false (And.intro h hs))
  replace h := ite_f b45 h
  rcases Bool.eq_false_or_eq_true (((i_4 : Nat) : Int) == 0) with b47 | b47
  replace h := ite_t b47 h
  rcases Bool.eq_false_or_eq_true (x_8.b != 0) with b48 | b48
  replace h := ite_t b48 h
  exact T_regJ (hl 28 [(4, (zd (B false))), (9, (zd (B true))), (11, zg), (12, zg), (13, zg), (16, zg), (17, zg), (26, zg), (27, (zd (B true)))]) [] [1, 3, 4, 118] [] [1, 4] _ _ (by kernel_rfl) (z4 (zc (gd_ff b45) (z1 (zc (gd_ff b45) (z2 (zc b45 (z2 (zc (gd_tt b47) (z1 (zc (gd_tt b47) (z1 (zc (gd_tt b47) (z2 (zc b47 (z2 (zc (gd_tf b48) (zc (gd_tf b48) (zc (gd_tf b48) (z2 (zc (gd_tf b48) (zc (gd_tf b48) (z8 (zc (gd_tf b48) (z1 (zc b48 zt))))))))))))))))))))))))) (fun s hs => Exists.intro true (And.intro h hs))
  replace h := ite_f b48 h
  rcases Bool.eq_false_or_eq_true (decide (((i_4 : Nat) : Int) > 0)) with b49 | b49
  replace h := ite_t b49 h
  rcases Bool.eq_false_or_eq_true (decide (x_8.b < 1)) with b50 | b50
  replace h := ite_t b50 h
  exact T_regJ (hl 28 [(4, (zd (B false))), (9, (zd (B true))), (16, (zd (B true))), (22, zg), (23, zg), (24, zg), (25, (zd (B true))), (26, (zd (B true))), (27, (zd (B false)))]) [] [1, 3, 4, 118] [] [1, 4] _ _ (by kernel_rfl) (z4 (zc (gd_ff b45) (z1 (zc (gd_ff b45) (z2 (zc b45 (z2 (zc (gd_tt b47) (z1 (zc (gd_tt b47) (z1 (zc (gd_tt b47) (z2 (zc b47 (z2 (zc (gd_ff b48) (z1 (zc (gd_ff b48) (z1 (zc (gd_ff b48) (z1 (zc (gd_tt (t_not b45)) (z1 (zc (gd_tt (t_not b45)) (z1 (zc (gd_ff b48) (zc (t_not b45) (zc (gd_ff b48) (z1 (zc (gd_tt b49) (z1 (zc (gd_tt b49) (z1 (zc (gd_tt b49) (z1 (zc (gd_tt b49) (z1 (zc (gd_tf b50) (zc (gd_tf b50) (zc (gd_tf b50) (zc (gd_tt b49) (zc b50 (zc (gd_ff b48) (zc b49 (z1 (zc b48 zt)))))))))))))))))))))))))))))))))))))))))))))) (fun s hs => Exists.intro true (And.intro h hs))
  replace h := ite_f b50 h
  exact T_regJ (hl 28 [(4, (zd (B false))), (9, (zd (B true))), (16, (zd (B true))), (25, (zd (B false))), (26, (zd (B true))), (27, (zd (B false)))]) [] [1, 3, 4, 118] [] [1, 4] _ _ (by kernel_rfl) (z4 (zc (gd_ff b45) (z1 (zc (gd_ff b45) (z2 (zc b45 (z2 (zc (gd_tt b47) (z1 (zc (gd_tt b47) (z1 (zc (gd_tt b47) (z2 (zc b47 (z2 (zc (gd_ff b48) (z1 (zc (gd_ff b48) (z1 (zc (gd_ff b48) (z1 (zc (gd_tt (t_not b45)) (z1 (zc (gd_tt (t_not b45)) (z1 (zc (gd_ff b48) (zc (t_not b45) (zc (gd_ff b48) (z1 (zc (gd_tt b49) (z1 (zc (gd_tt b49) (z1 (zc (gd_tt b49) (z1 (zc (gd_tt b49) (z1 (zc (gd_ff b50) (z1 (zc (gd_ff b50) (z1 (zc (gd_ff b50) (z1 (zc (gd_tt b49) (zc b50 (zc (gd_ff b48) (zc b49 (z1 (zc b48 zt))))))))))))))))))))))))))))))))))))))))))))))))) (fun s hs => Exists.intro (decide (x_8.b > 12)) (And.intro h hs))
  replace h := ite_f b49 h
  exact T_regJ (hl 28 [(4, (zd (B false))), (9, (zd (B true))), (16, (zd (B true))), (18, zg), (19, zg), (20, zg), (21, zg), (25, zg), (26, (zd (B false))), (27, (zd (B false)))]) [] [1, 3, 4, 118] [] [1, 4] _ _ (by kernel_rfl) (z4 (zc (gd_ff b45) (z1 (zc (gd_ff b45) (z2 (zc b45 (z2 (zc (gd_tt b47) (z1 (zc (gd_tt b47) (z1 (zc (gd_tt b47) (z2 (zc b47 (z2 (zc (gd_ff b48) (z1 (zc (gd_ff b48) (z1 (zc (gd_ff b48) (z1 (zc (gd_tt (t_not b45)) (z1 (zc (gd_tt (t_not b45)) (z1 (zc (gd_ff b48) (zc (t_not b45) (zc (gd_ff b48) (z1 (zc (gd_ft b49) (zc (gd_ft b49) (zc (gd_ft b49) (zc (gd_ft b49) (z3 (zc (gd_ft b49) (zc (gd_ff b48) (zc b49 (z1 (zc b48 zt))))))))))))))))))))))))))))))))))))))) (fun s hs => Exists.intro false (And.intro h hs))
  replace h := ite_f b47 h
  rcases Bool.eq_false_or_eq_true (decide (((i_4 : Nat) : Int) > 0)) with b51 | b51
  replace h := ite_t b51 h
  rcases Bool.eq_false_or_eq_true (decide (x_8.b < 1)) with b52 | b52
  replace h := ite_t b52 h
  exact T_regJ [zn, zn, zn, zn, (zd (B false)), zn, zg, zg, zg, (zd (B false)), zn, zn, zn, zn, zn, zn, (zd (B true)), zn, zn, zn, zn, zn, zg, zg, zg, (zd (B true)), (zd (B true)), (zd (B false))] [] [1, 3, 4, 118] [] [1, 4] _ _ (by kernel_rfl) (z4 (zc (gd_ff b45) (z1 (zc (gd_ff b45) (z2 (zc b45 (z2 (zc (gd_ft b47) (zc (gd_ft b47) (zc (gd_ft b47) (z1 (zc b47 (z2 (zc (gd_ff (rfl : false = false)) (z1 (zc (gd_ff (rfl : false = false)) (z1 (zc (gd_ff (rfl : false = false)) (z1 (zc (gd_tt (t_not b45)) (z1 (zc (gd_tt (t_not b45)) (z1 (zc (gd_ff (rfl : false = false)) (zc (t_not b45) (zc (gd_ff (rfl : false = false)) (z1 (zc (gd_tt b51) (z1 (zc (gd_tt b51) (z1 (zc (gd_tt b51) (z1 (zc (gd_tt b51) (z1 (zc (gd_tf b52) (zc (gd_tf b52) (zc (gd_tf b52) (zc (gd_tt b51) (zc b52 (zc (gd_ff (rfl : false = false)) (zc b51 (z1 (zc (rfl : false = false) zt)))))))))))))))))))))))))))))))))))))))))))) (fun s hs => Exists.intro true (And.intro h hs))
  replace h := ite_f b52 h
  exact T_regJ (hl 28 [(4, (zd (B false))), (6, zg), (7, zg), (8, zg), (9, (zd (B false))), (16, (zd (B true))), (25, (zd (B false))), (26, (zd (B true))), (27, (zd (B false)))]) [] [1, 3, 4, 118] [] [1, 4] _ _ (by kernel_rfl) (z4 (zc (gd_ff b45) (z1 (zc (gd_ff b45) (z2 (zc b45 (z2 (zc (gd_ft b47) (zc (gd_ft b47) (zc (gd_ft b47) (z1 (zc b47 (z2 (zc (gd_ff (rfl : false = false)) (z1 (zc (gd_ff (rfl : false = false)) (z1 (zc (gd_ff (rfl : false = false)) (z1 (zc (gd_tt (t_not b45)) (z1 (zc (gd_tt (t_not b45)) (z1 (zc (gd_ff (rfl : false = false)) (zc (t_not b45) (zc (gd_ff (rfl : false = false)) (z1 (zc (gd_tt b51) (z1 (zc (gd_tt b51) (z1 (zc (gd_tt b51) (z1 (zc (gd_tt b51) (z1 (zc (gd_ff b52) (z1 (zc (gd_ff b52) (z1 (zc (gd_ff b52) (z1 (zc (gd_tt b51) (zc b52 (zc (gd_ff (rfl : false = false)) (zc b51 (z1 (zc (rfl : false = false) zt))))))))))))))))))))))))))))))))))))))))))))))) (fun s hs => Exists.intro (decide (x_8.b > 12)) (And.intro h hs))
  replace h := ite_f b51 h
  exact T_regJ [zn, zn, zn, zn, (zd (B false)), zn, zg, zg, zg, (zd (B false)), zn, zn, zn, zn, zn, zn, (zd (B true)), zn, zg, zg, zg, zg, zn, zn, zn, zg, (zd (B false)), (zd (B false))] [] [1, 3, 4, 118] [] [1, 4] _ _ (by kernel_rfl) (z4 (zc (gd_ff b45) (z1 (zc (gd_ff b45) (z2 (zc b45 (z2 (zc (gd_ft b47) (zc (gd_ft b47) (zc (gd_ft b47) (z1 (zc b47 (z2 (zc (gd_ff (rfl : false = false)) (z1 (zc (gd_ff (rfl : false = false)) (z1 (zc (gd_ff (rfl : false = false)) (z1 (zc (gd_tt (t_not b45)) (z1 (zc (gd_tt (t_not b45)) (z1 (zc (gd_ff (rfl : false = false)) (zc (t_not b45) (zc (gd_ff (rfl : false = false)) (z1 (zc (gd_ft b51) (zc (gd_ft b51) (zc (gd_ft b51) (zc (gd_ft b51) (z3 (zc (gd_ft b51) (zc (gd_ff (rfl : false = false)) (zc b51 (z1 (zc (rfl : false = false) zt))))))))))))))))))))))))))))))))))))) (fun s hs => Exists.intro false (And.intro h hs))
  rcases Bool.eq_false_or_eq_true (!(tied_12)) with b53 | b53
  replace h := ite_t b53 h
  obtain ⟨c54, h⟩ := ckI_inv h
  rcases Bool.eq_false_or_eq_true (x_8.k != ((i_4 + 1 : Nat) : Int)) with b55 | b55
  replace h := ite_t b55 h
  exact T_regJD 26 (hl 26 [(6, (zd (I ((i_4 + 1 : Nat) : Int)))), (8, (zd (B true))), (10, zg), (11, zg), (24, zg), (25, (zd (B true)))]) [] [1, 3, 4, 5, 90] [] [1, 4] _ _ (by kernel_rfl) (by kernel_rfl) (by kernel_rfl) (zc (z6 (zc (gd_tt b53) (z1 (zc (gd_tt b53) (z1 (zc (gd_tt b53) (z1 (zc (gd_tt b53) (zc c54 (zc (gd_tt b53) (z2 (zc b53 (z2 (zc (gd_tf b55) (zc (gd_tf b55) (z8 (z4 (zc (gd_tf b55) (z1 (zc b55 zt)))))))))))))))))))) zt) (fun s hs => Exists.intro true (And.intro h hs))
  replace h := ite_f b55 h
  exact T_regJD 26 [zn, zn, zn, zn, zn, zn, (zd (I ((i_4 + 1 : Nat) : Int))), zn, (zd (B true)), zn, zn, zn, zg, zg, zg, zg, zg, zg, zg, zg, zg, zg, zg, zg, (zd (B false)), (zd (B false))] [] [1, 3, 4, 5, 90] [] [1, 4] _ _ (by kernel_rfl) (by kernel_rfl) (by kernel_rfl) (zc (z6 (zc (gd_tt b53) (z1 (zc (gd_tt b53) (z1 (zc (gd_tt b53) (z1 (zc (gd_tt b53) (zc c54 (zc (gd_tt b53) (z2 (zc b53 (z2 (zc (gd_ff b55) (z1 (zc (gd_ff b55) (z1 (zc (gd_ft (not_t b53)) (zc (gd_ft (not_t b53)) (zc (gd_ft (not_t b53)) (zc (gd_ft (not_t b53)) (zc (gd_ft (not_t b53)) (zc (gd_ft (not_t b53)) (zc (gd_ft (not_t b53)) (zc (gd_ft (not_t b53)) (zc (gd_ft (not_t b53)) (zc (gd_ft (not_t b53)) (zc (gd_ft (not_t b53)) (zc (gd_ft (not_t b53)) (zc (gd_ff b55) (zc (not_t b53) (z1 (zc b55 zt))))))))))))))))))))))))))))))))) zt) (fun s hs => Exists.intro false (And.intro h hs))
  replace h := ite_f b53 h
  obtain ⟨c56, h⟩ := ckI_inv h
  obtain ⟨x_57, e58, e59, e60, h⟩ := gt_inv encPlace h
  exact T_regJD 26 (hl 26 [(3, zg), (4, zg), (5, zg), (6, zg), (7, zg), (8, (zd (B false))), (18, (zd (I (((i_4 : Nat) : Int) - 1)))), (19, (zd (encPlace x_57))), (24, (zd (B true))), (25, (zd (B false)))]) [] [1, 3, 4, 5, 90] [] [1, 4] _ _ (by kernel_rfl) (by kernel_rfl) (by kernel_rfl) (zc (z6 (zc (gd_ft b53) (zc (gd_ft b53) (zc (gd_ft b53) (zc (gd_ft b53) (zc (gd_ft b53) (z1 (zc b53 (z2 (zc (gd_ff (rfl : false = false)) (z1 (zc (gd_ff (rfl : false = false)) (z1 (zc (gd_tt (not_f b53)) (z1 (zc (gd_tt (not_f b53)) (z1 (zc (gd_tt (not_f b53)) (z1 (zc (gd_tt (not_f b53)) (z1 (zc (gd_tt (not_f b53)) (z1 (zc (gd_tt (not_f b53)) (z1 (zc (gd_tt (not_f b53)) (zc c56 (zc (gd_tt (not_f b53)) (zc e58 (zc (gd_tt (not_f b53)) (z1 (zc (gd_tt (not_f b53)) (z1 (zc (gd_tt (not_f b53)) (z1 (zc (gd_tt (not_f b53)) (z1 (zc (gd_ff (rfl : false = false)) (zc (not_f b53) (z1 (zc (rfl : false = false) zt))))))))))))))))))))))))))))))))))))))))) zt) (fun s hs => Exists.intro (decide (x_8.r.c ≤ x_57.r.c)) (And.intro h hs))
  rcases Bool.eq_false_or_eq_true (decide (((i_4 : Nat) : Int) > 0)) with b61 | b61
  replace h := ite_t b61 h
  obtain ⟨c62, h⟩ := ckI_inv h
  obtain ⟨x_63, e64, e65, e66, h⟩ := gt_inv encPlace h
  exact T_regJD 15 (hl 14 [(8, (zd (I (((i_4 : Nat) : Int) - 1)))), (9, (zd (encPlace x_63))), (13, (zd (B true)))]) [] [1, 3, 4, 5] [] [1, 4] _ _ (by kernel_rfl) (by kernel_rfl) (by kernel_rfl) (zc (z6 (zc (gd_tt b61) (z1 (zc (gd_tt b61) (z1 (zc (gd_tt b61) (z1 (zc (gd_tt b61) (z1 (zc (gd_tt b61) (z1 (zc (gd_tt b61) (zc c62 (zc (gd_tt b61) (zc e64 (zc (gd_tt b61) (z1 (zc (gd_tt b61) (z1 (zc (gd_tt b61) (z2 (zc b61 (z2 zt))))))))))))))))))))))) zt) (fun s hs => Exists.intro (x_8.k == x_63.k) (And.intro h hs))
  replace h := ite_f b61 h
  exact T_regJD 15 [zn, zn, zn, zg, zg, zg, zg, zg, zg, zg, zg, zg, zg, (zd (B false))] [] [1, 3, 4, 5] [] [1, 4] _ _ (by kernel_rfl) (by kernel_rfl) (by kernel_rfl) (zc (z6 (zc (gd_ft b61) (zc (gd_ft b61) (zc (gd_ft b61) (zc (gd_ft b61) (zc (gd_ft b61) (zc (gd_ft b61) (zc (gd_ft b61) (zc (gd_ft b61) (zc (gd_ft b61) (zc (gd_ft b61) (z1 (zc b61 (z2 zt)))))))))))))) zt) (fun s hs => Exists.intro false (And.intro h hs))
  replace h := ite_f b6 h
  refine T_exit ?_
  replace h := up_inv h hy1
  exact Exists.intro () (And.intro h (arr [] [] [1] [] (by kernel_rfl)))
  rcases Bool.eq_false_or_eq_true (decide (t_1.s < 0)) with b67 | b67
  replace h := ite_t b67 h
  exact T_regJ [zn, zn, zn, zn, zg, zg, zg, (zd (B true)), zn, zg, zg, zg, (zd (B true)), zn, zg, zg, zg, (zd (B true)), zn, zg, zg, zg, zg, (zd (B true)), zn, zg, zg, zg, zg, (zd (B true))] [] [1, 38] [] [1] _ _ (by kernel_rfl) (z8 (zc (gd_tf b67) (zc (gd_tf b67) (zc (gd_tf b67) (z1 (zc b67 (z2 (zc (gd_tf (rfl : true = true)) (zc (gd_tf (rfl : true = true)) (zc (gd_tf (rfl : true = true)) (z1 (zc (rfl : true = true) (z2 (zc (gd_tf (rfl : true = true)) (zc (gd_tf (rfl : true = true)) (zc (gd_tf (rfl : true = true)) (z1 (zc (rfl : true = true) (z2 (zc (gd_tf (rfl : true = true)) (zc (gd_tf (rfl : true = true)) (zc (gd_tf (rfl : true = true)) (zc (gd_tf (rfl : true = true)) (z1 (zc (rfl : true = true) (z2 (zc (gd_tf (rfl : true = true)) (zc (gd_tf (rfl : true = true)) (zc (gd_tf (rfl : true = true)) (zc (gd_tf (rfl : true = true)) (z1 (zc (rfl : true = true) zt)))))))))))))))))))))))))))))))) (fun s hs => Exists.intro true (And.intro h hs))
  replace h := ite_f b67 h
  rcases Bool.eq_false_or_eq_true (decide (t_1.s ≥ 64)) with b68 | b68
  replace h := ite_t b68 h
  exact T_regJ [zn, zn, zn, zn, zn, zn, zn, (zd (B false)), zn, zg, zg, zg, (zd (B true)), zn, zg, zg, zg, (zd (B true)), zn, zg, zg, zg, zg, (zd (B true)), zn, zg, zg, zg, zg, (zd (B true))] [] [1, 38] [] [1] _ _ (by kernel_rfl) (z8 (zc (gd_ff b67) (z1 (zc (gd_ff b67) (z1 (zc (gd_ff b67) (z2 (zc b67 (z2 (zc (gd_tf b68) (zc (gd_tf b68) (zc (gd_tf b68) (z1 (zc b68 (z2 (zc (gd_tf (rfl : true = true)) (zc (gd_tf (rfl : true = true)) (zc (gd_tf (rfl : true = true)) (z1 (zc (rfl : true = true) (z2 (zc (gd_tf (rfl : true = true)) (zc (gd_tf (rfl : true = true)) (zc (gd_tf (rfl : true = true)) (zc (gd_tf (rfl : true = true)) (z1 (zc (rfl : true = true) (z2 (zc (gd_tf (rfl : true = true)) (zc (gd_tf (rfl : true = true)) (zc (gd_tf (rfl : true = true)) (zc (gd_tf (rfl : true = true)) (z1 (zc (rfl : true = true) zt)))))))))))))))))))))))))))))))))) (fun s hs => Exists.intro true (And.intro h hs))
  replace h := ite_f b68 h
  rcases Bool.eq_false_or_eq_true (decide (t_1.c < 0)) with b69 | b69
  replace h := ite_t b69 h
  exact T_regJ [zn, zn, zn, zn, zn, zn, zn, (zd (B false)), zn, zn, zn, zn, (zd (B false)), zn, zg, zg, zg, (zd (B true)), zn, zg, zg, zg, zg, (zd (B true)), zn, zg, zg, zg, zg, (zd (B true))] [] [1, 38] [] [1] _ _ (by kernel_rfl) (z8 (zc (gd_ff b67) (z1 (zc (gd_ff b67) (z1 (zc (gd_ff b67) (z2 (zc b67 (z2 (zc (gd_ff b68) (z1 (zc (gd_ff b68) (z1 (zc (gd_ff b68) (z2 (zc b68 (z2 (zc (gd_tf b69) (zc (gd_tf b69) (zc (gd_tf b69) (z1 (zc b69 (z2 (zc (gd_tf (rfl : true = true)) (zc (gd_tf (rfl : true = true)) (zc (gd_tf (rfl : true = true)) (zc (gd_tf (rfl : true = true)) (z1 (zc (rfl : true = true) (z2 (zc (gd_tf (rfl : true = true)) (zc (gd_tf (rfl : true = true)) (zc (gd_tf (rfl : true = true)) (zc (gd_tf (rfl : true = true)) (z1 (zc (rfl : true = true) zt)))))))))))))))))))))))))))))))))))) (fun s hs => Exists.intro true (And.intro h hs))
  replace h := ite_f b69 h
  rcases Bool.eq_false_or_eq_true (decide (t_1.c ≥ 16)) with b70 | b70
  replace h := ite_t b70 h
  exact T_regJ [zn, zn, zn, zn, zn, zn, zn, (zd (B false)), zn, zn, zn, zn, (zd (B false)), zn, zn, zn, zn, (zd (B false)), zn, zg, zg, zg, zg, (zd (B true)), zn, zg, zg, zg, zg, (zd (B true))] [] [1, 38] [] [1] _ _ (by kernel_rfl) (z8 (zc (gd_ff b67) (z1 (zc (gd_ff b67) (z1 (zc (gd_ff b67) (z2 (zc b67 (z2 (zc (gd_ff b68) (z1 (zc (gd_ff b68) (z1 (zc (gd_ff b68) (z2 (zc b68 (z2 (zc (gd_ff b69) (z1 (zc (gd_ff b69) (z1 (zc (gd_ff b69) (z2 (zc b69 (z2 (zc (gd_tf b70) (zc (gd_tf b70) (zc (gd_tf b70) (zc (gd_tf b70) (z1 (zc b70 (z2 (zc (gd_tf (rfl : true = true)) (zc (gd_tf (rfl : true = true)) (zc (gd_tf (rfl : true = true)) (zc (gd_tf (rfl : true = true)) (z1 (zc (rfl : true = true) zt)))))))))))))))))))))))))))))))))))))) (fun s hs => Exists.intro true (And.intro h hs))
  replace h := ite_f b70 h
  rcases Bool.eq_false_or_eq_true (decide (((t_1.l.length : Nat) : Int) < 2)) with b71 | b71
  replace h := ite_t b71 h
  exact T_regJ (hl 30 [(7, (zd (B false))), (12, (zd (B false))), (17, (zd (B false))), (21, (zd (I ((t_1.l.length : Nat) : Int)))), (23, (zd (B false))), (25, zg), (26, zg), (27, zg), (28, zg), (29, (zd (B true)))]) [] [1, 38] [] [1] _ _ (by kernel_rfl) (z8 (zc (gd_ff b67) (z1 (zc (gd_ff b67) (z1 (zc (gd_ff b67) (z2 (zc b67 (z2 (zc (gd_ff b68) (z1 (zc (gd_ff b68) (z1 (zc (gd_ff b68) (z2 (zc b68 (z2 (zc (gd_ff b69) (z1 (zc (gd_ff b69) (z1 (zc (gd_ff b69) (z2 (zc b69 (z2 (zc (gd_ff b70) (z1 (zc (gd_ff b70) (z1 (zc (gd_ff b70) (zc (len_s encPlace t_1.l) (zc (gd_ff b70) (z2 (zc b70 (z2 (zc (gd_tf b71) (zc (gd_tf b71) (zc (gd_tf b71) (zc (gd_tf b71) (z1 (zc b71 zt))))))))))))))))))))))))))))))))))))))))) (fun s hs => Exists.intro true (And.intro h hs))
  replace h := ite_f b71 h
  exact T_regJ (hl 30 [(7, (zd (B false))), (12, (zd (B false))), (17, (zd (B false))), (21, (zd (I ((t_1.l.length : Nat) : Int)))), (23, (zd (B false))), (27, (zd (I ((t_1.l.length : Nat) : Int)))), (29, (zd (B false)))]) [] [1, 38] [] [1] _ _ (by kernel_rfl) (z8 (zc (gd_ff b67) (z1 (zc (gd_ff b67) (z1 (zc (gd_ff b67) (z2 (zc b67 (z2 (zc (gd_ff b68) (z1 (zc (gd_ff b68) (z1 (zc (gd_ff b68) (z2 (zc b68 (z2 (zc (gd_ff b69) (z1 (zc (gd_ff b69) (z1 (zc (gd_ff b69) (z2 (zc b69 (z2 (zc (gd_ff b70) (z1 (zc (gd_ff b70) (z1 (zc (gd_ff b70) (zc (len_s encPlace t_1.l) (zc (gd_ff b70) (z2 (zc b70 (z2 (zc (gd_ff b71) (z1 (zc (gd_ff b71) (z1 (zc (gd_ff b71) (zc (len_s encPlace t_1.l) (zc (gd_ff b71) (z2 (zc b71 zt)))))))))))))))))))))))))))))))))))))))))))) (fun s hs => Exists.intro (decide (((t_1.l.length : Nat) : Int) > 24)) (And.intro h hs))

end Go.Proofs.YtoiiblkncbnlaaaGreat

/-
  Go functions as partial functions, printed by auto.py: what each returns when its partial function has a value. Conditions: those of each theorem.
-/
namespace Go.Proofs.YtoiiblkncbnlaaaGreat
open Go.DL
set_option maxRecDepth 100000
set_option maxHeartbeats 4000000
set_option linter.unusedVariables false
set_option linter.unusedSimpArgs false
theorem g_ref42_Check_ret {s_1 : Sch} {r : Int} (h : g_ref42_Check s_1 = some r) : Ret Tryz.prog 15 [(encSch s_1)] (I r) := by
  refine Ret.of_T Tryz.func15 (by kernel_rfl) rfl ?_
  refine T_turn [] [0] [] (mk 163 [(0, (.agg (qSch s_1)))] []) (by kernel_rfl) ?_
  refine T_reg [] [1] [] (mk 163 [(1, (rf 1 0))] [(1, (.var (qSch s_1)))]) _ (by kernel_rfl) (z4 zt) ?_
  refine T_seq ?_
  refine T_seqJ (α := Bool) (fun (v_2 : Bool) => (mk 163 [(1, (rf 1 0)), (39, (db (v_2)))] [(1, (.var (qSch s_1)))])) (fun (v_2 : Bool) => g_ref42_Check_j1 s_1 v_2 = some r) (fun v_2 h => ?_) ?_
  refine T_cond (v_2) (by kernel_rfl) (fun b3 => ?_) (fun b3 => ?_)
  replace h := ite_t b3 h
  refine T_reg [] [2] [1] (mk 163 [(2, (di 420))] []) _ (by kernel_rfl) (z2 zt) ?_
  refine T_ret ?_
  obtain rfl := some_inv h
  exact ret_here [(di 420)] (by kernel_rfl) (.inl rfl)
  replace h := ite_f b3 h
  refine T_skip ?_
  refine T_reg [] [1, 3] [] (mk 163 [(1, (rf 1 0)), (3, (di 0))] [(1, (.var (qSch s_1)))]) _ (by kernel_rfl) (z2 zt) ?_
  refine T_seqJ (α := Int) (fun (sum_4 : Int) => (mk 163 [(1, (rf 1 0)), (3, (di sum_4))] [(1, (.var (qSch s_1)))])) (fun (sum_4 : Int) => g_ref42_Check_j2 s_1 sum_4 = some r) (fun sum_4 h => ?_) ?_
  refine T_seq ?_
  refine T_seqJ (α := Bool) (fun (v_5 : Bool) => (mk 163 [(1, (rf 1 0)), (144, (db (v_5)))] [(1, (.var (qSch s_1)))])) (fun (v_5 : Bool) => g_ref42_Check_j3 s_1 v_5 = some r) (fun v_5 h => ?_) ?_
  refine T_cond (v_5) (by kernel_rfl) (fun b6 => ?_) (fun b6 => ?_)
  replace h := ite_t b6 h
  refine T_reg [] [2] [1] (mk 163 [(2, (di 420))] []) _ (by kernel_rfl) (z2 zt) ?_
  refine T_ret ?_
  obtain rfl := some_inv h
  exact ret_here [(di 420)] (by kernel_rfl) (.inl rfl)
  replace h := ite_f b6 h
  refine T_skip ?_
  refine T_seq ?_
  refine T_seqJ (α := Bool) (fun (v_7 : Bool) => (mk 163 [(162, (db (v_7)))] [])) (fun (v_7 : Bool) => g_ref42_Check_j4 v_7 = some r) (fun v_7 h => ?_) ?_
  refine T_cond (v_7) (by kernel_rfl) (fun b8 => ?_) (fun b8 => ?_)
  replace h := ite_t b8 h
  refine T_reg [] [2] [] (mk 163 [(2, (di 420))] []) _ (by kernel_rfl) (z2 zt) ?_
  refine T_ret ?_
  obtain rfl := some_inv h
  exact ret_here [(di 420)] (by kernel_rfl) (.inl rfl)
  replace h := ite_f b8 h
  refine T_skip ?_
  refine T_reg [] [2] [] (mk 163 [(2, (di 0))] []) _ (by kernel_rfl) (z2 zt) ?_
  refine T_ret ?_
  obtain rfl := some_inv h
  exact ret_here [(di 0)] (by kernel_rfl) (.inl rfl)
  rcases Bool.eq_false_or_eq_true (s_1.ab == (-1)) with b9 | b9
  replace h := ite_t b9 h
  rcases Bool.eq_false_or_eq_true (s_1.u != 0) with b10 | b10
  replace h := ite_t b10 h
  exact T_regJ [zn, zn, zn, zn, zn, zn, zn, (zd (B true)), zn, zg, zg, zg, zg, zn, zn, zn, zg, (zd (B true))] [] [162] [1] [] _ _ (by kernel_rfl) (z8 (zc (gd_tt b9) (z1 (zc (gd_tt b9) (z1 (zc (gd_tt b9) (z2 (zc b9 (z2 (zc (gd_tf b10) (zc (gd_tf b10) (zc (gd_tf b10) (zc (gd_tf b10) (z3 (zc (gd_tf b10) (z1 (zc b10 zt))))))))))))))))) (fun s hs => Exists.intro true (And.intro h hs))
  replace h := ite_f b10 h
  rcases Bool.eq_false_or_eq_true (s_1.be == (-1)) with b11 | b11
  replace h := ite_t b11 h
  exact T_regJ (hl 18 [(7, (zd (B true))), (16, (zd (B true))), (17, (zd (B false)))]) [] [162] [1] [] _ _ (by kernel_rfl) (z8 (zc (gd_tt b9) (z1 (zc (gd_tt b9) (z1 (zc (gd_tt b9) (z2 (zc b9 (z2 (zc (gd_ff b10) (z1 (zc (gd_ff b10) (z1 (zc (gd_ff b10) (z1 (zc (gd_ff b10) (z1 (zc (gd_tt b11) (z1 (zc (gd_tt b11) (z1 (zc (gd_tt b11) (z1 (zc (gd_ff b10) (zc b11 (z1 (zc b10 zt))))))))))))))))))))))))))) (fun s hs => Exists.intro (s_1.d != 0) (And.intro h hs))
  replace h := ite_f b11 h
  exact T_regJ (hl 18 [(7, (zd (B true))), (13, zg), (14, zg), (15, zg), (16, (zd (B false))), (17, (zd (B false)))]) [] [162] [1] [] _ _ (by kernel_rfl) (z8 (zc (gd_tt b9) (z1 (zc (gd_tt b9) (z1 (zc (gd_tt b9) (z2 (zc b9 (z2 (zc (gd_ff b10) (z1 (zc (gd_ff b10) (z1 (zc (gd_ff b10) (z1 (zc (gd_ff b10) (z1 (zc (gd_ft b11) (zc (gd_ft b11) (zc (gd_ft b11) (zc (gd_ff b10) (zc b11 (z1 (zc b10 zt)))))))))))))))))))))))) (fun s hs => Exists.intro false (And.intro h hs))
  replace h := ite_f b9 h
  rcases Bool.eq_false_or_eq_true (s_1.be == (-1)) with b12 | b12
  replace h := ite_t b12 h
  exact T_regJ (hl 18 [(4, zg), (5, zg), (6, zg), (7, (zd (B false))), (16, (zd (B true))), (17, (zd (B false)))]) [] [162] [1] [] _ _ (by kernel_rfl) (z8 (zc (gd_ft b9) (zc (gd_ft b9) (zc (gd_ft b9) (z1 (zc b9 (z2 (zc (gd_ff (rfl : false = false)) (z1 (zc (gd_ff (rfl : false = false)) (z1 (zc (gd_ff (rfl : false = false)) (z1 (zc (gd_ff (rfl : false = false)) (z1 (zc (gd_tt b12) (z1 (zc (gd_tt b12) (z1 (zc (gd_tt b12) (z1 (zc (gd_ff (rfl : false = false)) (zc b12 (z1 (zc (rfl : false = false) zt))))))))))))))))))))))))) (fun s hs => Exists.intro (s_1.d != 0) (And.intro h hs))
  replace h := ite_f b12 h
  exact T_regJ [zn, zn, zn, zn, zg, zg, zg, (zd (B false)), zn, zn, zn, zn, zn, zg, zg, zg, (zd (B false)), (zd (B false))] [] [162] [1] [] _ _ (by kernel_rfl) (z8 (zc (gd_ft b9) (zc (gd_ft b9) (zc (gd_ft b9) (z1 (zc b9 (z2 (zc (gd_ff (rfl : false = false)) (z1 (zc (gd_ff (rfl : false = false)) (z1 (zc (gd_ff (rfl : false = false)) (z1 (zc (gd_ff (rfl : false = false)) (z1 (zc (gd_ft b12) (zc (gd_ft b12) (zc (gd_ft b12) (zc (gd_ff (rfl : false = false)) (zc b12 (z1 (zc (rfl : false = false) zt)))))))))))))))))))))) (fun s hs => Exists.intro false (And.intro h hs))
  rcases Bool.eq_false_or_eq_true (decide (sum_4 > 1125899906842624)) with b13 | b13
  replace h := ite_t b13 h
  exact T_regJ [zn, zn, zn, zg, zg, zg, (zd (B true)), zn, zg, zg, zg, (zd (B true)), zn, zg, zg, zg, (zd (B true)), zn, zg, zg, zg, (zd (B true)), zn, zg, zg, zg, zg, zg, (zd (B true)), zn, zg, zg, zg, zg, zg, (zd (B true)), zn, zg, zg, zg, zg, zg, zg, zn, zn, zn, zg, (zd (B true))] [] [1, 144] [] [1] _ _ (by kernel_rfl) (z6 (zc (gd_tf b13) (zc (gd_tf b13) (zc (gd_tf b13) (z1 (zc b13 (z2 (zc (gd_tf (rfl : true = true)) (zc (gd_tf (rfl : true = true)) (zc (gd_tf (rfl : true = true)) (z1 (zc (rfl : true = true) (z2 (zc (gd_tf (rfl : true = true)) (zc (gd_tf (rfl : true = true)) (zc (gd_tf (rfl : true = true)) (z1 (zc (rfl : true = true) (z2 (zc (gd_tf (rfl : true = true)) (zc (gd_tf (rfl : true = true)) (zc (gd_tf (rfl : true = true)) (z1 (zc (rfl : true = true) (z2 (zc (gd_tf (rfl : true = true)) (zc (gd_tf (rfl : true = true)) (zc (gd_tf (rfl : true = true)) (zc (gd_tf (rfl : true = true)) (zc (gd_tf (rfl : true = true)) (z1 (zc (rfl : true = true) (z2 (zc (gd_tf (rfl : true = true)) (zc (gd_tf (rfl : true = true)) (zc (gd_tf (rfl : true = true)) (zc (gd_tf (rfl : true = true)) (zc (gd_tf (rfl : true = true)) (z1 (zc (rfl : true = true) (z2 (zc (gd_tf (rfl : true = true)) (zc (gd_tf (rfl : true = true)) (zc (gd_tf (rfl : true = true)) (zc (gd_tf (rfl : true = true)) (zc (gd_tf (rfl : true = true)) (zc (gd_tf (rfl : true = true)) (z3 (zc (gd_tf (rfl : true = true)) (z1 (zc (rfl : true = true) zt))))))))))))))))))))))))))))))))))))))))))))))))))) (fun s hs => Exists.intro true (And.intro h hs))
  replace h := ite_f b13 h
  rcases Bool.eq_false_or_eq_true (decide (s_1.ab < (-1))) with b14 | b14
  replace h := ite_t b14 h
  exact T_regJ [zn, zn, zn, zn, zn, zn, (zd (B false)), zn, zg, zg, zg, (zd (B true)), zn, zg, zg, zg, (zd (B true)), zn, zg, zg, zg, (zd (B true)), zn, zg, zg, zg, zg, zg, (zd (B true)), zn, zg, zg, zg, zg, zg, (zd (B true)), zn, zg, zg, zg, zg, zg, zg, zn, zn, zn, zg, (zd (B true))] [] [1, 144] [] [1] _ _ (by kernel_rfl) (z6 (zc (gd_ff b13) (z1 (zc (gd_ff b13) (z1 (zc (gd_ff b13) (z2 (zc b13 (z2 (zc (gd_tf b14) (zc (gd_tf b14) (zc (gd_tf b14) (z1 (zc b14 (z2 (zc (gd_tf (rfl : true = true)) (zc (gd_tf (rfl : true = true)) (zc (gd_tf (rfl : true = true)) (z1 (zc (rfl : true = true) (z2 (zc (gd_tf (rfl : true = true)) (zc (gd_tf (rfl : true = true)) (zc (gd_tf (rfl : true = true)) (z1 (zc (rfl : true = true) (z2 (zc (gd_tf (rfl : true = true)) (zc (gd_tf (rfl : true = true)) (zc (gd_tf (rfl : true = true)) (zc (gd_tf (rfl : true = true)) (zc (gd_tf (rfl : true = true)) (z1 (zc (rfl : true = true) (z2 (zc (gd_tf (rfl : true = true)) (zc (gd_tf (rfl : true = true)) (zc (gd_tf (rfl : true = true)) (zc (gd_tf (rfl : true = true)) (zc (gd_tf (rfl : true = true)) (z1 (zc (rfl : true = true) (z2 (zc (gd_tf (rfl : true = true)) (zc (gd_tf (rfl : true = true)) (zc (gd_tf (rfl : true = true)) (zc (gd_tf (rfl : true = true)) (zc (gd_tf (rfl : true = true)) (zc (gd_tf (rfl : true = true)) (z3 (zc (gd_tf (rfl : true = true)) (z1 (zc (rfl : true = true) zt))))))))))))))))))))))))))))))))))))))))))))))))))))) (fun s hs => Exists.intro true (And.intro h hs))
  replace h := ite_f b14 h
  rcases Bool.eq_false_or_eq_true (decide (s_1.ab ≥ 8)) with b15 | b15
  replace h := ite_t b15 h
  exact T_regJ [zn, zn, zn, zn, zn, zn, (zd (B false)), zn, zn, zn, zn, (zd (B false)), zn, zg, zg, zg, (zd (B true)), zn, zg, zg, zg, (zd (B true)), zn, zg, zg, zg, zg, zg, (zd (B true)), zn, zg, zg, zg, zg, zg, (zd (B true)), zn, zg, zg, zg, zg, zg, zg, zn, zn, zn, zg, (zd (B true))] [] [1, 144] [] [1] _ _ (by kernel_rfl) (z6 (zc (gd_ff b13) (z1 (zc (gd_ff b13) (z1 (zc (gd_ff b13) (z2 (zc b13 (z2 (zc (gd_ff b14) (z1 (zc (gd_ff b14) (z1 (zc (gd_ff b14) (z2 (zc b14 (z2 (zc (gd_tf b15) (zc (gd_tf b15) (zc (gd_tf b15) (z1 (zc b15 (z2 (zc (gd_tf (rfl : true = true)) (zc (gd_tf (rfl : true = true)) (zc (gd_tf (rfl : true = true)) (z1 (zc (rfl : true = true) (z2 (zc (gd_tf (rfl : true = true)) (zc (gd_tf (rfl : true = true)) (zc (gd_tf (rfl : true = true)) (zc (gd_tf (rfl : true = true)) (zc (gd_tf (rfl : true = true)) (z1 (zc (rfl : true = true) (z2 (zc (gd_tf (rfl : true = true)) (zc (gd_tf (rfl : true = true)) (zc (gd_tf (rfl : true = true)) (zc (gd_tf (rfl : true = true)) (zc (gd_tf (rfl : true = true)) (z1 (zc (rfl : true = true) (z2 (zc (gd_tf (rfl : true = true)) (zc (gd_tf (rfl : true = true)) (zc (gd_tf (rfl : true = true)) (zc (gd_tf (rfl : true = true)) (zc (gd_tf (rfl : true = true)) (zc (gd_tf (rfl : true = true)) (z3 (zc (gd_tf (rfl : true = true)) (z1 (zc (rfl : true = true) zt))))))))))))))))))))))))))))))))))))))))))))))))))))))) (fun s hs => Exists.intro true (And.intro h hs))
  replace h := ite_f b15 h
  rcases Bool.eq_false_or_eq_true (decide (s_1.be < (-1))) with b16 | b16
  replace h := ite_t b16 h
  exact T_regJ [zn, zn, zn, zn, zn, zn, (zd (B false)), zn, zn, zn, zn, (zd (B false)), zn, zn, zn, zn, (zd (B false)), zn, zg, zg, zg, (zd (B true)), zn, zg, zg, zg, zg, zg, (zd (B true)), zn, zg, zg, zg, zg, zg, (zd (B true)), zn, zg, zg, zg, zg, zg, zg, zn, zn, zn, zg, (zd (B true))] [] [1, 144] [] [1] _ _ (by kernel_rfl) (z6 (zc (gd_ff b13) (z1 (zc (gd_ff b13) (z1 (zc (gd_ff b13) (z2 (zc b13 (z2 (zc (gd_ff b14) (z1 (zc (gd_ff b14) (z1 (zc (gd_ff b14) (z2 (zc b14 (z2 (zc (gd_ff b15) (z1 (zc (gd_ff b15) (z1 (zc (gd_ff b15) (z2 (zc b15 (z2 (zc (gd_tf b16) (zc (gd_tf b16) (zc (gd_tf b16) (z1 (zc b16 (z2 (zc (gd_tf (rfl : true = true)) (zc (gd_tf (rfl : true = true)) (zc (gd_tf (rfl : true = true)) (zc (gd_tf (rfl : true = true)) (zc (gd_tf (rfl : true = true)) (z1 (zc (rfl : true = true) (z2 (zc (gd_tf (rfl : true = true)) (zc (gd_tf (rfl : true = true)) (zc (gd_tf (rfl : true = true)) (zc (gd_tf (rfl : true = true)) (zc (gd_tf (rfl : true = true)) (z1 (zc (rfl : true = true) (z2 (zc (gd_tf (rfl : true = true)) (zc (gd_tf (rfl : true = true)) (zc (gd_tf (rfl : true = true)) (zc (gd_tf (rfl : true = true)) (zc (gd_tf (rfl : true = true)) (zc (gd_tf (rfl : true = true)) (z3 (zc (gd_tf (rfl : true = true)) (z1 (zc (rfl : true = true) zt))))))))))))))))))))))))))))))))))))))))))))))))))))))))) (fun s hs => Exists.intro true (And.intro h hs))
  replace h := ite_f b16 h
  rcases Bool.eq_false_or_eq_true (decide (s_1.be ≥ 8)) with b17 | b17
  replace h := ite_t b17 h
  exact T_regJ [zn, zn, zn, zn, zn, zn, (zd (B false)), zn, zn, zn, zn, (zd (B false)), zn, zn, zn, zn, (zd (B false)), zn, zn, zn, zn, (zd (B false)), zn, zg, zg, zg, zg, zg, (zd (B true)), zn, zg, zg, zg, zg, zg, (zd (B true)), zn, zg, zg, zg, zg, zg, zg, zn, zn, zn, zg, (zd (B true))] [] [1, 144] [] [1] _ _ (by kernel_rfl) (z6 (zc (gd_ff b13) (z1 (zc (gd_ff b13) (z1 (zc (gd_ff b13) (z2 (zc b13 (z2 (zc (gd_ff b14) (z1 (zc (gd_ff b14) (z1 (zc (gd_ff b14) (z2 (zc b14 (z2 (zc (gd_ff b15) (z1 (zc (gd_ff b15) (z1 (zc (gd_ff b15) (z2 (zc b15 (z2 (zc (gd_ff b16) (z1 (zc (gd_ff b16) (z1 (zc (gd_ff b16) (z2 (zc b16 (z2 (zc (gd_tf b17) (zc (gd_tf b17) (zc (gd_tf b17) (zc (gd_tf b17) (zc (gd_tf b17) (z1 (zc b17 (z2 (zc (gd_tf (rfl : true = true)) (zc (gd_tf (rfl : true = true)) (zc (gd_tf (rfl : true = true)) (zc (gd_tf (rfl : true = true)) (zc (gd_tf (rfl : true = true)) (z1 (zc (rfl : true = true) (z2 (zc (gd_tf (rfl : true = true)) (zc (gd_tf (rfl : true = true)) (zc (gd_tf (rfl : true = true)) (zc (gd_tf (rfl : true = true)) (zc (gd_tf (rfl : true = true)) (zc (gd_tf (rfl : true = true)) (z3 (zc (gd_tf (rfl : true = true)) (z1 (zc (rfl : true = true) zt))))))))))))))))))))))))))))))))))))))))))))))))))))))))))) (fun s hs => Exists.intro true (And.intro h hs))
  replace h := ite_f b17 h
  rcases Bool.eq_false_or_eq_true (s_1.ab == s_1.c) with b18 | b18
  replace h := ite_t b18 h
  exact T_regJ [zn, zn, zn, zn, zn, zn, (zd (B false)), zn, zn, zn, zn, (zd (B false)), zn, zn, zn, zn, (zd (B false)), zn, zn, zn, zn, (zd (B false)), zn, zn, zn, zn, zn, zn, (zd (B false)), zn, zg, zg, zg, zg, zg, (zd (B true)), zn, zg, zg, zg, zg, zg, zg, zn, zn, zn, zg, (zd (B true))] [] [1, 144] [] [1] _ _ (by kernel_rfl) (z6 (zc (gd_ff b13) (z1 (zc (gd_ff b13) (z1 (zc (gd_ff b13) (z2 (zc b13 (z2 (zc (gd_ff b14) (z1 (zc (gd_ff b14) (z1 (zc (gd_ff b14) (z2 (zc b14 (z2 (zc (gd_ff b15) (z1 (zc (gd_ff b15) (z1 (zc (gd_ff b15) (z2 (zc b15 (z2 (zc (gd_ff b16) (z1 (zc (gd_ff b16) (z1 (zc (gd_ff b16) (z2 (zc b16 (z2 (zc (gd_ff b17) (z1 (zc (gd_ff b17) (z1 (zc (gd_ff b17) (z1 (zc (gd_ff b17) (z1 (zc (gd_ff b17) (z2 (zc b17 (z2 (zc (gd_tf b18) (zc (gd_tf b18) (zc (gd_tf b18) (zc (gd_tf b18) (zc (gd_tf b18) (z1 (zc b18 (z2 (zc (gd_tf (rfl : true = true)) (zc (gd_tf (rfl : true = true)) (zc (gd_tf (rfl : true = true)) (zc (gd_tf (rfl : true = true)) (zc (gd_tf (rfl : true = true)) (zc (gd_tf (rfl : true = true)) (z3 (zc (gd_tf (rfl : true = true)) (z1 (zc (rfl : true = true) zt))))))))))))))))))))))))))))))))))))))))))))))))))))))))))))))) (fun s hs => Exists.intro true (And.intro h hs))
  replace h := ite_f b18 h
  rcases Bool.eq_false_or_eq_true (s_1.be == s_1.c) with b19 | b19
  replace h := ite_t b19 h
  exact T_regJ (hl 48 [(6, (zd (B false))), (11, (zd (B false))), (16, (zd (B false))), (21, (zd (B false))), (28, (zd (B false))), (35, (zd (B false))), (37, zg), (38, zg), (39, zg), (40, zg), (41, zg), (42, zg), (46, zg), (47, (zd (B true)))]) [] [1, 144] [] [1] _ _ (by kernel_rfl) (z6 (zc (gd_ff b13) (z1 (zc (gd_ff b13) (z1 (zc (gd_ff b13) (z2 (zc b13 (z2 (zc (gd_ff b14) (z1 (zc (gd_ff b14) (z1 (zc (gd_ff b14) (z2 (zc b14 (z2 (zc (gd_ff b15) (z1 (zc (gd_ff b15) (z1 (zc (gd_ff b15) (z2 (zc b15 (z2 (zc (gd_ff b16) (z1 (zc (gd_ff b16) (z1 (zc (gd_ff b16) (z2 (zc b16 (z2 (zc (gd_ff b17) (z1 (zc (gd_ff b17) (z1 (zc (gd_ff b17) (z1 (zc (gd_ff b17) (z1 (zc (gd_ff b17) (z2 (zc b17 (z2 (zc (gd_ff b18) (z1 (zc (gd_ff b18) (z1 (zc (gd_ff b18) (z1 (zc (gd_ff b18) (z1 (zc (gd_ff b18) (z2 (zc b18 (z2 (zc (gd_tf b19) (zc (gd_tf b19) (zc (gd_tf b19) (zc (gd_tf b19) (zc (gd_tf b19) (zc (gd_tf b19) (z3 (zc (gd_tf b19) (z1 (zc b19 zt))))))))))))))))))))))))))))))))))))))))))))))))))))))))))))))))))) (fun s hs => Exists.intro true (And.intro h hs))
  replace h := ite_f b19 h
  rcases Bool.eq_false_or_eq_true (s_1.ab == s_1.be) with b20 | b20
  replace h := ite_t b20 h
  exact T_regJ (hl 48 [(6, (zd (B false))), (11, (zd (B false))), (16, (zd (B false))), (21, (zd (B false))), (28, (zd (B false))), (35, (zd (B false))), (46, (zd (B true))), (47, (zd (B false)))]) [] [1, 144] [] [1] _ _ (by kernel_rfl) (z6 (zc (gd_ff b13) (z1 (zc (gd_ff b13) (z1 (zc (gd_ff b13) (z2 (zc b13 (z2 (zc (gd_ff b14) (z1 (zc (gd_ff b14) (z1 (zc (gd_ff b14) (z2 (zc b14 (z2 (zc (gd_ff b15) (z1 (zc (gd_ff b15) (z1 (zc (gd_ff b15) (z2 (zc b15 (z2 (zc (gd_ff b16) (z1 (zc (gd_ff b16) (z1 (zc (gd_ff b16) (z2 (zc b16 (z2 (zc (gd_ff b17) (z1 (zc (gd_ff b17) (z1 (zc (gd_ff b17) (z1 (zc (gd_ff b17) (z1 (zc (gd_ff b17) (z2 (zc b17 (z2 (zc (gd_ff b18) (z1 (zc (gd_ff b18) (z1 (zc (gd_ff b18) (z1 (zc (gd_ff b18) (z1 (zc (gd_ff b18) (z2 (zc b18 (z2 (zc (gd_ff b19) (z1 (zc (gd_ff b19) (z1 (zc (gd_ff b19) (z1 (zc (gd_ff b19) (z1 (zc (gd_ff b19) (z1 (zc (gd_ff b19) (z1 (zc (gd_tt b20) (z1 (zc (gd_tt b20) (z1 (zc (gd_tt b20) (z1 (zc (gd_ff b19) (zc b20 (z1 (zc b19 zt))))))))))))))))))))))))))))))))))))))))))))))))))))))))))))))))))))))))))))))) (fun s hs => Exists.intro (s_1.ab != (-1)) (And.intro h hs))
  replace h := ite_f b20 h
  exact T_regJ (hl 48 [(6, (zd (B false))), (11, (zd (B false))), (16, (zd (B false))), (21, (zd (B false))), (28, (zd (B false))), (35, (zd (B false))), (43, zg), (44, zg), (45, zg), (46, (zd (B false))), (47, (zd (B false)))]) [] [1, 144] [] [1] _ _ (by kernel_rfl) (z6 (zc (gd_ff b13) (z1 (zc (gd_ff b13) (z1 (zc (gd_ff b13) (z2 (zc b13 (z2 (zc (gd_ff b14) (z1 (zc (gd_ff b14) (z1 (zc (gd_ff b14) (z2 (zc b14 (z2 (zc (gd_ff b15) (z1 (zc (gd_ff b15) (z1 (zc (gd_ff b15) (z2 (zc b15 (z2 (zc (gd_ff b16) (z1 (zc (gd_ff b16) (z1 (zc (gd_ff b16) (z2 (zc b16 (z2 (zc (gd_ff b17) (z1 (zc (gd_ff b17) (z1 (zc (gd_ff b17) (z1 (zc (gd_ff b17) (z1 (zc (gd_ff b17) (z2 (zc b17 (z2 (zc (gd_ff b18) (z1 (zc (gd_ff b18) (z1 (zc (gd_ff b18) (z1 (zc (gd_ff b18) (z1 (zc (gd_ff b18) (z2 (zc b18 (z2 (zc (gd_ff b19) (z1 (zc (gd_ff b19) (z1 (zc (gd_ff b19) (z1 (zc (gd_ff b19) (z1 (zc (gd_ff b19) (z1 (zc (gd_ff b19) (z1 (zc (gd_ft b20) (zc (gd_ft b20) (zc (gd_ft b20) (zc (gd_ff b19) (zc b20 (z1 (zc b19 zt)))))))))))))))))))))))))))))))))))))))))))))))))))))))))))))))))))))))))))) (fun s hs => Exists.intro false (And.intro h hs))
  refine T_reg [] [1, 3, 4] [] (mk 163 [(1, (rf 1 0)), (3, (di 0)), (4, (di 0))] [(1, (.var (qSch s_1)))]) _ (by kernel_rfl) (z2 zt) ?_
  refine T_block ?_
  refine T_arr [] [1, 3, 4] [] [1] _ (by kernel_rfl) (T_loopO (σ := Int × Nat) (fun ((sum_21, i_22) : Int × Nat) => (mk 163 [(1, (rf 1 0)), (3, (di sum_21)), (4, (di ((i_22 : Nat) : Int)))] [(1, (.var (qSch s_1)))])) (g_ref42_Check_l5 s_1) (0, 0) h (fun v y1 hy1 h => ?_))
  obtain ⟨sum_21, i_22⟩ := v
  refine T_seq ?_
  refine T_reg [zn, zn, zn, (zd (I ((s_1.p.length : Nat) : Int)))] [1, 3, 4, 44] [] (mk 163 [(1, (rf 1 0)), (3, (di sum_21)), (4, (di ((i_22 : Nat) : Int))), (44, (db (decide (((i_22 : Nat) : Int) < ((s_1.p.length : Nat) : Int)))))] [(1, (.var (qSch s_1)))]) _ (by kernel_rfl) (z7 (zc (len_s encPrize s_1.p) (z2 zt))) ?_
  refine T_cond (decide (((i_22 : Nat) : Int) < ((s_1.p.length : Nat) : Int))) (by kernel_rfl) (fun b25 => ?_) (fun b25 => ?_)
  replace h := ite_t b25 h
  refine T_skip ?_
  refine T_seq ?_
  refine T_block ?_
  obtain ⟨x_26, e27, e28, e29, h⟩ := gn_inv encPrize h
  refine T_reg [zn, zn, zn, (zd (encPrize x_26))] [1, 3, 4, 5] [] (mk 163 [(1, (rf 1 0)), (3, (di sum_21)), (4, (di ((i_22 : Nat) : Int))), (5, (rf 5 0))] [(5, (.var (qPrize x_26))), (1, (.var (qSch s_1)))]) _ (by kernel_rfl) (z7 (zc e27 (z6 zt))) ?_
  refine T_seq ?_
  refine T_seqJ (α := Bool) (fun (v_30 : Bool) => (mk 163 [(1, (rf 1 0)), (3, (di sum_21)), (4, (di ((i_22 : Nat) : Int))), (5, (rf 5 0)), (92, (db (v_30)))] [(1, (.var (qSch s_1))), (5, (.var (qPrize x_26)))])) (fun (v_30 : Bool) => g_ref42_Check_j6 sum_21 x_26 i_22 s_1 v_30 = some y1) (fun v_30 h => ?_) ?_
  refine T_cond (v_30) (by kernel_rfl) (fun b31 => ?_) (fun b31 => ?_)
  replace h := ite_t b31 h
  refine T_reg [] [2] [1, 5] (mk 163 [(2, (di 420))] []) _ (by kernel_rfl) (z2 zt) ?_
  refine T_ret ?_
  replace h := up_inv h hy1
  obtain rfl := some_inv h
  exact ret_here [(di 420)] (by kernel_rfl) (.inl rfl)
  replace h := ite_f b31 h
  refine T_skip ?_
  obtain ⟨c32, h⟩ := ckI_inv h
  refine T_regE [zn, zn, zn, (zd (I (sum_21 + x_26.a)))] (mk 163 [(1, (rf 1 0)), (3, (di (sum_21 + x_26.a))), (4, (di ((i_22 : Nat) : Int))), (5, (rf 5 0)), (92, (db (v_30))), (93, (di sum_21)), (94, (rf 5 2)), (95, (di x_26.a)), (96, (di (sum_21 + x_26.a)))] [(1, (.var (qSch s_1))), (5, (.var (qPrize x_26)))]) _ (by kernel_rfl) (z7 (zc c32 (z2 zt))) ?_
  obtain ⟨c33, h⟩ := ckI_inv h
  exact T_regJ [zn, (zd (I ((i_22 + 1 : Nat) : Int)))] [] [1, 3, 4] [5] [1] _ _ (by kernel_rfl) (z3 (zc c33 (z2 zt))) (fun s hs => Exists.intro ((sum_21 + x_26.a), i_22 + 1) (And.intro h hs))
  rcases Bool.eq_false_or_eq_true (decide (x_26.f < 1)) with b34 | b34
  replace h := ite_t b34 h
  exact T_regJD 41 [zn, zn, zn, zn, zg, zg, zg, zg, zg, (zd (B true)), zn, zg, zg, zg, (zd (B true)), zn, zg, zg, zg, (zd (B true)), zn, zg, zg, zg, (zd (B true)), zn, zg, zg, zg, zn, zn, zn, zn, zn, zn, zn, zn, zn, zn, zg, (zd (B true))] [] [1, 3, 4, 5, 92] [] [1, 5] _ _ (by kernel_rfl) (by kernel_rfl) (by kernel_rfl) (zc (z8 (zc (gd_tf b34) (zc (gd_tf b34) (zc (gd_tf b34) (zc (gd_tf b34) (zc (gd_tf b34) (z1 (zc b34 (z2 (zc (gd_tf (rfl : true = true)) (zc (gd_tf (rfl : true = true)) (zc (gd_tf (rfl : true = true)) (z1 (zc (rfl : true = true) (z2 (zc (gd_tf (rfl : true = true)) (zc (gd_tf (rfl : true = true)) (zc (gd_tf (rfl : true = true)) (z1 (zc (rfl : true = true) (z2 (zc (gd_tf (rfl : true = true)) (zc (gd_tf (rfl : true = true)) (zc (gd_tf (rfl : true = true)) (z1 (zc (rfl : true = true) (z2 (zc (gd_tf (rfl : true = true)) (zc (gd_tf (rfl : true = true)) (zc (gd_tf (rfl : true = true)) (z8 (z2 (zc (gd_tf (rfl : true = true)) (z1 (zc (rfl : true = true) zt))))))))))))))))))))))))))))))))))) zt) (fun s hs => Exists.intro true (And.intro h hs))
  replace h := ite_f b34 h
  rcases Bool.eq_false_or_eq_true (decide (x_26.t < x_26.f)) with b35 | b35
  replace h := ite_t b35 h
  exact T_regJD 41 [zn, zn, zn, zn, zn, zn, zn, zn, zn, (zd (B false)), zn, zg, zg, zg, (zd (B true)), zn, zg, zg, zg, (zd (B true)), zn, zg, zg, zg, (zd (B true)), zn, zg, zg, zg, zn, zn, zn, zn, zn, zn, zn, zn, zn, zn, zg, (zd (B true))] [] [1, 3, 4, 5, 92] [] [1, 5] _ _ (by kernel_rfl) (by kernel_rfl) (by kernel_rfl) (zc (z8 (zc (gd_ff b34) (z1 (zc (gd_ff b34) (z1 (zc (gd_ff b34) (z1 (zc (gd_ff b34) (z1 (zc (gd_ff b34) (z2 (zc b34 (z2 (zc (gd_tf b35) (zc (gd_tf b35) (zc (gd_tf b35) (z1 (zc b35 (z2 (zc (gd_tf (rfl : true = true)) (zc (gd_tf (rfl : true = true)) (zc (gd_tf (rfl : true = true)) (z1 (zc (rfl : true = true) (z2 (zc (gd_tf (rfl : true = true)) (zc (gd_tf (rfl : true = true)) (zc (gd_tf (rfl : true = true)) (z1 (zc (rfl : true = true) (z2 (zc (gd_tf (rfl : true = true)) (zc (gd_tf (rfl : true = true)) (zc (gd_tf (rfl : true = true)) (z8 (z2 (zc (gd_tf (rfl : true = true)) (z1 (zc (rfl : true = true) zt))))))))))))))))))))))))))))))))))))))) zt) (fun s hs => Exists.intro true (And.intro h hs))
  replace h := ite_f b35 h
  rcases Bool.eq_false_or_eq_true (decide (x_26.t > 24)) with b36 | b36
  replace h := ite_t b36 h
  exact T_regJD 41 (hl 41 [(9, (zd (B false))), (14, (zd (B false))), (16, zg), (17, zg), (18, zg), (19, (zd (B true))), (21, zg), (22, zg), (23, zg), (24, (zd (B true))), (26, zg), (27, zg), (28, zg), (39, zg), (40, (zd (B true)))]) [] [1, 3, 4, 5, 92] [] [1, 5] _ _ (by kernel_rfl) (by kernel_rfl) (by kernel_rfl) (zc (z8 (zc (gd_ff b34) (z1 (zc (gd_ff b34) (z1 (zc (gd_ff b34) (z1 (zc (gd_ff b34) (z1 (zc (gd_ff b34) (z2 (zc b34 (z2 (zc (gd_ff b35) (z1 (zc (gd_ff b35) (z1 (zc (gd_ff b35) (z2 (zc b35 (z2 (zc (gd_tf b36) (zc (gd_tf b36) (zc (gd_tf b36) (z1 (zc b36 (z2 (zc (gd_tf (rfl : true = true)) (zc (gd_tf (rfl : true = true)) (zc (gd_tf (rfl : true = true)) (z1 (zc (rfl : true = true) (z2 (zc (gd_tf (rfl : true = true)) (zc (gd_tf (rfl : true = true)) (zc (gd_tf (rfl : true = true)) (z8 (z2 (zc (gd_tf (rfl : true = true)) (z1 (zc (rfl : true = true) zt))))))))))))))))))))))))))))))))))))))))) zt) (fun s hs => Exists.intro true (And.intro h hs))
  replace h := ite_f b36 h
  rcases Bool.eq_false_or_eq_true (decide (x_26.a < 1)) with b37 | b37
  replace h := ite_t b37 h
  exact T_regJD 41 (hl 41 [(9, (zd (B false))), (14, (zd (B false))), (19, (zd (B false))), (21, zg), (22, zg), (23, zg), (24, (zd (B true))), (26, zg), (27, zg), (28, zg), (39, zg), (40, (zd (B true)))]) [] [1, 3, 4, 5, 92] [] [1, 5] _ _ (by kernel_rfl) (by kernel_rfl) (by kernel_rfl) (zc (z8 (zc (gd_ff b34) (z1 (zc (gd_ff b34) (z1 (zc (gd_ff b34) (z1 (zc (gd_ff b34) (z1 (zc (gd_ff b34) (z2 (zc b34 (z2 (zc (gd_ff b35) (z1 (zc (gd_ff b35) (z1 (zc (gd_ff b35) (z2 (zc b35 (z2 (zc (gd_ff b36) (z1 (zc (gd_ff b36) (z1 (zc (gd_ff b36) (z2 (zc b36 (z2 (zc (gd_tf b37) (zc (gd_tf b37) (zc (gd_tf b37) (z1 (zc b37 (z2 (zc (gd_tf (rfl : true = true)) (zc (gd_tf (rfl : true = true)) (zc (gd_tf (rfl : true = true)) (z8 (z2 (zc (gd_tf (rfl : true = true)) (z1 (zc (rfl : true = true) zt))))))))))))))))))))))))))))))))))))))))))) zt) (fun s hs => Exists.intro true (And.intro h hs))
  replace h := ite_f b37 h
  rcases Bool.eq_false_or_eq_true (decide (x_26.a > 1125899906842624)) with b38 | b38
  replace h := ite_t b38 h
  exact T_regJD 41 (hl 41 [(9, (zd (B false))), (14, (zd (B false))), (19, (zd (B false))), (24, (zd (B false))), (26, zg), (27, zg), (28, zg), (39, zg), (40, (zd (B true)))]) [] [1, 3, 4, 5, 92] [] [1, 5] _ _ (by kernel_rfl) (by kernel_rfl) (by kernel_rfl) (zc (z8 (zc (gd_ff b34) (z1 (zc (gd_ff b34) (z1 (zc (gd_ff b34) (z1 (zc (gd_ff b34) (z1 (zc (gd_ff b34) (z2 (zc b34 (z2 (zc (gd_ff b35) (z1 (zc (gd_ff b35) (z1 (zc (gd_ff b35) (z2 (zc b35 (z2 (zc (gd_ff b36) (z1 (zc (gd_ff b36) (z1 (zc (gd_ff b36) (z2 (zc b36 (z2 (zc (gd_ff b37) (z1 (zc (gd_ff b37) (z1 (zc (gd_ff b37) (z2 (zc b37 (z2 (zc (gd_tf b38) (zc (gd_tf b38) (zc (gd_tf b38) (z8 (z2 (zc (gd_tf b38) (z1 (zc b38 zt))))))))))))))))))))))))))))))))))))))))))))) zt) (fun s hs => Exists.intro true (And.intro h hs))
  replace h := ite_f b38 h
  rcases Bool.eq_false_or_eq_true (decide (((i_22 : Nat) : Int) > 0)) with b39 | b39
  replace h := ite_t b39 h
  obtain ⟨c40, h⟩ := ckI_inv h
  obtain ⟨x_41, e42, e43, e44, h⟩ := gt_inv encPrize h
  exact T_regJD 41 (hl 41 [(9, (zd (B false))), (14, (zd (B false))), (19, (zd (B false))), (24, (zd (B false))), (34, (zd (I (((i_22 : Nat) : Int) - 1)))), (35, (zd (encPrize x_41))), (39, (zd (B true))), (40, (zd (B false)))]) [] [1, 3, 4, 5, 92] [] [1, 5] _ _ (by kernel_rfl) (by kernel_rfl) (by kernel_rfl) (zc (z8 (zc (gd_ff b34) (z1 (zc (gd_ff b34) (z1 (zc (gd_ff b34) (z1 (zc (gd_ff b34) (z1 (zc (gd_ff b34) (z2 (zc b34 (z2 (zc (gd_ff b35) (z1 (zc (gd_ff b35) (z1 (zc (gd_ff b35) (z2 (zc b35 (z2 (zc (gd_ff b36) (z1 (zc (gd_ff b36) (z1 (zc (gd_ff b36) (z2 (zc b36 (z2 (zc (gd_ff b37) (z1 (zc (gd_ff b37) (z1 (zc (gd_ff b37) (z2 (zc b37 (z2 (zc (gd_ff b38) (z1 (zc (gd_ff b38) (z1 (zc (gd_ff b38) (z1 (zc (gd_tt b39) (z1 (zc (gd_tt b39) (z1 (zc (gd_tt b39) (z1 (zc (gd_tt b39) (z1 (zc (gd_tt b39) (z1 (zc (gd_tt b39) (zc c40 (zc (gd_tt b39) (zc e42 (zc (gd_tt b39) (z1 (zc (gd_tt b39) (z1 (zc (gd_tt b39) (z1 (zc (gd_ff b38) (zc b39 (z1 (zc b38 zt))))))))))))))))))))))))))))))))))))))))))))))))))))))))))))))))))) zt) (fun s hs => Exists.intro (decide (x_26.f ≤ x_41.t)) (And.intro h hs))
  replace h := ite_f b39 h
  exact T_regJD 41 [zn, zn, zn, zn, zn, zn, zn, zn, zn, (zd (B false)), zn, zn, zn, zn, (zd (B false)), zn, zn, zn, zn, (zd (B false)), zn, zn, zn, zn, (zd (B false)), zn, zn, zn, zn, zg, zg, zg, zg, zg, zg, zg, zg, zg, zg, (zd (B false)), (zd (B false))] [] [1, 3, 4, 5, 92] [] [1, 5] _ _ (by kernel_rfl) (by kernel_rfl) (by kernel_rfl) (zc (z8 (zc (gd_ff b34) (z1 (zc (gd_ff b34) (z1 (zc (gd_ff b34) (z1 (zc (gd_ff b34) (z1 (zc (gd_ff b34) (z2 (zc b34 (z2 (zc (gd_ff b35) (z1 (zc (gd_ff b35) (z1 (zc (gd_ff b35) (z2 (zc b35 (z2 (zc (gd_ff b36) (z1 (zc (gd_ff b36) (z1 (zc (gd_ff b36) (z2 (zc b36 (z2 (zc (gd_ff b37) (z1 (zc (gd_ff b37) (z1 (zc (gd_ff b37) (z2 (zc b37 (z2 (zc (gd_ff b38) (z1 (zc (gd_ff b38) (z1 (zc (gd_ff b38) (z1 (zc (gd_ft b39) (zc (gd_ft b39) (zc (gd_ft b39) (zc (gd_ft b39) (zc (gd_ft b39) (zc (gd_ft b39) (zc (gd_ft b39) (zc (gd_ft b39) (zc (gd_ft b39) (zc (gd_ft b39) (zc (gd_ff b38) (zc b39 (z1 (zc b38 zt))))))))))))))))))))))))))))))))))))))))))))))))))))))))) zt) (fun s hs => Exists.intro false (And.intro h hs))
  replace h := ite_f b25 h
  refine T_exit ?_
  replace h := up_inv h hy1
  exact Exists.intro sum_21 (And.intro h (arr [] [1, 3] [] [1] (by kernel_rfl)))
  rcases Bool.eq_false_or_eq_true (decide (s_1.c < 0)) with b45 | b45
  replace h := ite_t b45 h
  exact T_regJ [zn, zn, zn, zn, zg, zg, zg, (zd (B true)), zn, zg, zg, zg, zg, (zd (B true)), zn, zg, zg, zg, (zd (B true)), zn, zg, zg, zg, (zd (B true)), zn, zg, zg, zg, (zd (B true)), zn, zg, zg, zg, (zd (B true))] [] [1, 39] [] [1] _ _ (by kernel_rfl) (z8 (zc (gd_tf b45) (zc (gd_tf b45) (zc (gd_tf b45) (z1 (zc b45 (z2 (zc (gd_tf (rfl : true = true)) (zc (gd_tf (rfl : true = true)) (zc (gd_tf (rfl : true = true)) (zc (gd_tf (rfl : true = true)) (z1 (zc (rfl : true = true) (z2 (zc (gd_tf (rfl : true = true)) (zc (gd_tf (rfl : true = true)) (zc (gd_tf (rfl : true = true)) (z1 (zc (rfl : true = true) (z2 (zc (gd_tf (rfl : true = true)) (zc (gd_tf (rfl : true = true)) (zc (gd_tf (rfl : true = true)) (z1 (zc (rfl : true = true) (z2 (zc (gd_tf (rfl : true = true)) (zc (gd_tf (rfl : true = true)) (zc (gd_tf (rfl : true = true)) (z1 (zc (rfl : true = true) (z2 (zc (gd_tf (rfl : true = true)) (zc (gd_tf (rfl : true = true)) (zc (gd_tf (rfl : true = true)) (z1 (zc (rfl : true = true) zt))))))))))))))))))))))))))))))))))))) (fun s hs => Exists.intro true (And.intro h hs))
  replace h := ite_f b45 h
  rcases Bool.eq_false_or_eq_true (decide (s_1.c ≥ 8)) with b46 | b46
  replace h := ite_t b46 h
  exact T_regJ [zn, zn, zn, zn, zn, zn, zn, (zd (B false)), zn, zg, zg, zg, zg, (zd (B true)), zn, zg, zg, zg, (zd (B true)), zn, zg, zg, zg, (zd (B true)), zn, zg, zg, zg, (zd (B true)), zn, zg, zg, zg, (zd (B true))] [] [1, 39] [] [1] _ _ (by kernel_rfl) (z8 (zc (gd_ff b45) (z1 (zc (gd_ff b45) (z1 (zc (gd_ff b45) (z2 (zc b45 (z2 (zc (gd_tf b46) (zc (gd_tf b46) (zc (gd_tf b46) (zc (gd_tf b46) (z1 (zc b46 (z2 (zc (gd_tf (rfl : true = true)) (zc (gd_tf (rfl : true = true)) (zc (gd_tf (rfl : true = true)) (z1 (zc (rfl : true = true) (z2 (zc (gd_tf (rfl : true = true)) (zc (gd_tf (rfl : true = true)) (zc (gd_tf (rfl : true = true)) (z1 (zc (rfl : true = true) (z2 (zc (gd_tf (rfl : true = true)) (zc (gd_tf (rfl : true = true)) (zc (gd_tf (rfl : true = true)) (z1 (zc (rfl : true = true) (z2 (zc (gd_tf (rfl : true = true)) (zc (gd_tf (rfl : true = true)) (zc (gd_tf (rfl : true = true)) (z1 (zc (rfl : true = true) zt))))))))))))))))))))))))))))))))))))))) (fun s hs => Exists.intro true (And.intro h hs))
  replace h := ite_f b46 h
  rcases Bool.eq_false_or_eq_true (decide (((s_1.p.length : Nat) : Int) > 24)) with b47 | b47
  replace h := ite_t b47 h
  exact T_regJ [zn, zn, zn, zn, zn, zn, zn, (zd (B false)), zn, zn, zn, (zd (I ((s_1.p.length : Nat) : Int))), zn, (zd (B false)), zn, zg, zg, zg, (zd (B true)), zn, zg, zg, zg, (zd (B true)), zn, zg, zg, zg, (zd (B true)), zn, zg, zg, zg, (zd (B true))] [] [1, 39] [] [1] _ _ (by kernel_rfl) (z8 (zc (gd_ff b45) (z1 (zc (gd_ff b45) (z1 (zc (gd_ff b45) (z2 (zc b45 (z2 (zc (gd_ff b46) (z1 (zc (gd_ff b46) (z1 (zc (gd_ff b46) (zc (len_s encPrize s_1.p) (zc (gd_ff b46) (z2 (zc b46 (z2 (zc (gd_tf b47) (zc (gd_tf b47) (zc (gd_tf b47) (z1 (zc b47 (z2 (zc (gd_tf (rfl : true = true)) (zc (gd_tf (rfl : true = true)) (zc (gd_tf (rfl : true = true)) (z1 (zc (rfl : true = true) (z2 (zc (gd_tf (rfl : true = true)) (zc (gd_tf (rfl : true = true)) (zc (gd_tf (rfl : true = true)) (z1 (zc (rfl : true = true) (z2 (zc (gd_tf (rfl : true = true)) (zc (gd_tf (rfl : true = true)) (zc (gd_tf (rfl : true = true)) (z1 (zc (rfl : true = true) zt)))))))))))))))))))))))))))))))))))))))))) (fun s hs => Exists.intro true (And.intro h hs))
  replace h := ite_f b47 h
  rcases Bool.eq_false_or_eq_true (decide (s_1.u < 0)) with b48 | b48
  replace h := ite_t b48 h
  exact T_regJ [zn, zn, zn, zn, zn, zn, zn, (zd (B false)), zn, zn, zn, (zd (I ((s_1.p.length : Nat) : Int))), zn, (zd (B false)), zn, zn, zn, zn, (zd (B false)), zn, zg, zg, zg, (zd (B true)), zn, zg, zg, zg, (zd (B true)), zn, zg, zg, zg, (zd (B true))] [] [1, 39] [] [1] _ _ (by kernel_rfl) (z8 (zc (gd_ff b45) (z1 (zc (gd_ff b45) (z1 (zc (gd_ff b45) (z2 (zc b45 (z2 (zc (gd_ff b46) (z1 (zc (gd_ff b46) (z1 (zc (gd_ff b46) (zc (len_s encPrize s_1.p) (zc (gd_ff b46) (z2 (zc b46 (z2 (zc (gd_ff b47) (z1 (zc (gd_ff b47) (z1 (zc (gd_ff b47) (z2 (zc b47 (z2 (zc (gd_tf b48) (zc (gd_tf b48) (zc (gd_tf b48) (z1 (zc b48 (z2 (zc (gd_tf (rfl : true = true)) (zc (gd_tf (rfl : true = true)) (zc (gd_tf (rfl : true = true)) (z1 (zc (rfl : true = true) (z2 (zc (gd_tf (rfl : true = true)) (zc (gd_tf (rfl : true = true)) (zc (gd_tf (rfl : true = true)) (z1 (zc (rfl : true = true) zt)))))))))))))))))))))))))))))))))))))))))))) (fun s hs => Exists.intro true (And.intro h hs))
  replace h := ite_f b48 h
  rcases Bool.eq_false_or_eq_true (decide (s_1.u > 24)) with b49 | b49
  replace h := ite_t b49 h
  exact T_regJ [zn, zn, zn, zn, zn, zn, zn, (zd (B false)), zn, zn, zn, (zd (I ((s_1.p.length : Nat) : Int))), zn, (zd (B false)), zn, zn, zn, zn, (zd (B false)), zn, zn, zn, zn, (zd (B false)), zn, zg, zg, zg, (zd (B true)), zn, zg, zg, zg, (zd (B true))] [] [1, 39] [] [1] _ _ (by kernel_rfl) (z8 (zc (gd_ff b45) (z1 (zc (gd_ff b45) (z1 (zc (gd_ff b45) (z2 (zc b45 (z2 (zc (gd_ff b46) (z1 (zc (gd_ff b46) (z1 (zc (gd_ff b46) (zc (len_s encPrize s_1.p) (zc (gd_ff b46) (z2 (zc b46 (z2 (zc (gd_ff b47) (z1 (zc (gd_ff b47) (z1 (zc (gd_ff b47) (z2 (zc b47 (z2 (zc (gd_ff b48) (z1 (zc (gd_ff b48) (z1 (zc (gd_ff b48) (z2 (zc b48 (z2 (zc (gd_tf b49) (zc (gd_tf b49) (zc (gd_tf b49) (z1 (zc b49 (z2 (zc (gd_tf (rfl : true = true)) (zc (gd_tf (rfl : true = true)) (zc (gd_tf (rfl : true = true)) (z1 (zc (rfl : true = true) zt)))))))))))))))))))))))))))))))))))))))))))))) (fun s hs => Exists.intro true (And.intro h hs))
  replace h := ite_f b49 h
  rcases Bool.eq_false_or_eq_true (decide (s_1.d < 0)) with b50 | b50
  replace h := ite_t b50 h
  exact T_regJ (hl 34 [(7, (zd (B false))), (11, (zd (I ((s_1.p.length : Nat) : Int)))), (13, (zd (B false))), (18, (zd (B false))), (23, (zd (B false))), (28, (zd (B false))), (30, zg), (31, zg), (32, zg), (33, (zd (B true)))]) [] [1, 39] [] [1] _ _ (by kernel_rfl) (z8 (zc (gd_ff b45) (z1 (zc (gd_ff b45) (z1 (zc (gd_ff b45) (z2 (zc b45 (z2 (zc (gd_ff b46) (z1 (zc (gd_ff b46) (z1 (zc (gd_ff b46) (zc (len_s encPrize s_1.p) (zc (gd_ff b46) (z2 (zc b46 (z2 (zc (gd_ff b47) (z1 (zc (gd_ff b47) (z1 (zc (gd_ff b47) (z2 (zc b47 (z2 (zc (gd_ff b48) (z1 (zc (gd_ff b48) (z1 (zc (gd_ff b48) (z2 (zc b48 (z2 (zc (gd_ff b49) (z1 (zc (gd_ff b49) (z1 (zc (gd_ff b49) (z2 (zc b49 (z2 (zc (gd_tf b50) (zc (gd_tf b50) (zc (gd_tf b50) (z1 (zc b50 zt)))))))))))))))))))))))))))))))))))))))))))))))) (fun s hs => Exists.intro true (And.intro h hs))
  replace h := ite_f b50 h
  exact T_regJ (hl 34 [(7, (zd (B false))), (11, (zd (I ((s_1.p.length : Nat) : Int)))), (13, (zd (B false))), (18, (zd (B false))), (23, (zd (B false))), (28, (zd (B false))), (33, (zd (B false)))]) [] [1, 39] [] [1] _ _ (by kernel_rfl) (z8 (zc (gd_ff b45) (z1 (zc (gd_ff b45) (z1 (zc (gd_ff b45) (z2 (zc b45 (z2 (zc (gd_ff b46) (z1 (zc (gd_ff b46) (z1 (zc (gd_ff b46) (zc (len_s encPrize s_1.p) (zc (gd_ff b46) (z2 (zc b46 (z2 (zc (gd_ff b47) (z1 (zc (gd_ff b47) (z1 (zc (gd_ff b47) (z2 (zc b47 (z2 (zc (gd_ff b48) (z1 (zc (gd_ff b48) (z1 (zc (gd_ff b48) (z2 (zc b48 (z2 (zc (gd_ff b49) (z1 (zc (gd_ff b49) (z1 (zc (gd_ff b49) (z2 (zc b49 (z2 (zc (gd_ff b50) (z1 (zc (gd_ff b50) (z1 (zc (gd_ff b50) (z2 (zc b50 zt)))))))))))))))))))))))))))))))))))))))))))))))))) (fun s hs => Exists.intro (decide (s_1.d > 24)) (And.intro h hs))

theorem g_ref42_checked_ret {t_1 : Tab} {s_2 : Sch} {r : Int} (h : g_ref42_checked t_1 s_2 = some r) : Ret Tryz.prog 37 [(encTab t_1), (encSch s_2)] (I r) := by
  refine Ret.of_T Tryz.func37 (by kernel_rfl) rfl ?_
  refine T_turn [] [0, 1] [] (mk 22 [(0, (.agg (qTab t_1))), (1, (.agg (qSch s_2)))] []) (by kernel_rfl) ?_
  refine T_reg [] [2, 3] [] (mk 22 [(2, (rf 2 0)), (3, (rf 3 0))] [(3, (.var (qSch s_2))), (2, (.var (qTab t_1)))]) _ (by kernel_rfl) (z6 zt) ?_
  obtain ⟨r_3, e4, h⟩ := bd_inv h
  refine T_reg [zn, (zd (I r_3))] [2, 3, 5] [] (mk 22 [(2, (rf 2 0)), (3, (rf 3 0)), (5, (di r_3))] [(3, (.var (qSch s_2))), (2, (.var (qTab t_1)))]) _ (by kernel_rfl) (z3 (zc (g_ref20_Check_ret e4) (z2 zt))) ?_
  refine T_seqJ (α := Int) (fun (e_5 : Int) => (mk 22 [(2, (rf 2 0)), (3, (rf 3 0)), (5, (di e_5))] [(2, (.var (qTab t_1))), (3, (.var (qSch s_2)))])) (fun (e_5 : Int) => g_ref42_checked_j1 t_1 s_2 e_5 = some r) (fun e_5 h => ?_) ?_
  refine T_seqJ (α := Int) (fun (e_6 : Int) => (mk 22 [(5, (di e_6))] [])) (fun (e_6 : Int) => g_ref42_checked_j2 e_6 = some r) (fun e_6 h => ?_) ?_
  refine T_reg [] [4] [] (mk 22 [(4, (di e_6))] []) _ (by kernel_rfl) (z4 zt) ?_
  refine T_ret ?_
  obtain rfl := some_inv h
  exact ret_here [(di e_6)] (by kernel_rfl) (.inl rfl)
  refine T_seqJ (α := Bool) (fun (v_7 : Bool) => (mk 22 [(5, (di e_5)), (20, (db (v_7)))] [])) (fun (v_7 : Bool) => g_ref42_checked_j3 e_5 v_7 = some r) (fun v_7 h => ?_) ?_
  refine T_cond (v_7) (by kernel_rfl) (fun b8 => ?_) (fun b8 => ?_)
  replace h := ite_t b8 h
  exact T_regJ [] [] [5] [] [] _ _ (by kernel_rfl) (z2 zt) (fun s hs => Exists.intro 420 (And.intro h hs))
  replace h := ite_f b8 h
  refine T_skip ?_
  exact Exists.intro e_5 (And.intro h (arr [] [5] [] [] (by kernel_rfl)))
  rcases Bool.eq_false_or_eq_true (e_5 == 0) with b9 | b9
  replace h := ite_t b9 h
  exact T_regJ (hl 9 [(8, (zd (B true)))]) [] [5, 20] [2, 3] [] _ _ (by kernel_rfl) (z6 (zc (gd_tt b9) (z1 (zc (gd_tt b9) (z1 (zc (gd_tt b9) (z1 (zc (gd_tt b9) (z1 (zc (gd_tt b9) (z2 (zc b9 zt)))))))))))) (fun s hs => Exists.intro (t_1.c != s_2.c) (And.intro h hs))
  replace h := ite_f b9 h
  exact T_regJ [zn, zn, zn, zg, zg, zg, zg, zg, (zd (B false))] [] [5, 20] [2, 3] [] _ _ (by kernel_rfl) (z6 (zc (gd_ft b9) (zc (gd_ft b9) (zc (gd_ft b9) (zc (gd_ft b9) (zc (gd_ft b9) (z1 (zc b9 zt)))))))) (fun s hs => Exists.intro false (And.intro h hs))
  refine T_reg [] [2, 3, 5, 9] [] (mk 22 [(2, (rf 2 0)), (3, (rf 3 0)), (5, (di r_3)), (9, (db (r_3 == 0)))] [(3, (.var (qSch s_2))), (2, (.var (qTab t_1)))]) _ (by kernel_rfl) (z4 zt) ?_
  refine T_cond (r_3 == 0) (by kernel_rfl) (fun b10 => ?_) (fun b10 => ?_)
  replace h := ite_t b10 h
  obtain ⟨r_11, e12, h⟩ := bd_inv h
  exact T_regJ [zn, (zd (I r_11))] [] [2, 3, 5] [] [2, 3] _ _ (by kernel_rfl) (z3 (zc (g_ref42_Check_ret e12) (z2 zt))) (fun s hs => Exists.intro r_11 (And.intro h hs))
  replace h := ite_f b10 h
  refine T_skip ?_
  exact Exists.intro r_3 (And.intro h (arr [] [2, 3, 5] [] [2, 3] (by kernel_rfl)))

end Go.Proofs.YtoiiblkncbnlaaaGreat

/-
  Go functions as partial functions, printed by auto.py: what each returns when its partial function has a value. Conditions: those of each theorem.
-/
namespace Go.Proofs.YtoiiblkncbnlaaaGreat
open Go.DL
set_option maxRecDepth 100000
set_option maxHeartbeats 4000000
set_option linter.unusedVariables false
set_option linter.unusedSimpArgs false
theorem g_ref42_with_ret {l_1 : List Int} {n_2 : Int} {r : List Int} (h : g_ref42_with l_1 n_2 = some r) : Ret Tryz.prog 44 [(.sl 1 (l_1.map elI)), (I n_2)] (.sl 1 (r.map elI)) := by
  refine Ret.of_T Tryz.func44 (by kernel_rfl) rfl ?_
  refine T_turn [] [0, 1] [] (mk 33 [(0, (dt (.sl 1 (l_1.map elI)))), (1, (di n_2))] []) (by kernel_rfl) ?_
  refine T_reg [] [0, 1] [] (mk 33 [(0, (dt (.sl 1 (l_1.map elI)))), (1, (di n_2))] []) _ (by kernel_rfl) (z2 zt) ?_
  refine T_reg [] [0, 1, 5] [] (mk 33 [(0, (dt (.sl 1 (l_1.map elI)))), (1, (di n_2)), (5, (di 0))] []) _ (by kernel_rfl) (z2 zt) ?_
  refine T_seqJ (α := Nat) (fun (k_3 : Nat) => (mk 33 [(0, (dt (.sl 1 (l_1.map elI)))), (1, (di n_2)), (5, (di ((k_3 : Nat) : Int)))] [])) (fun (k_3 : Nat) => g_ref42_with_j1 l_1 n_2 k_3 = some r) (fun k_3 h => ?_) ?_
  obtain ⟨s_4, e5, h⟩ := sb_inv 1 elI h
  obtain ⟨c6, h⟩ := ck_inv h
  refine T_reg [zn, zn, zn, zn, (zd (.sl 1 (s_4.map elI))), (zd (.sl 1 (([n_2] ++ s_4).map elI)))] [0, 5, 6] [] (mk 33 [(0, (dt (.sl 1 (l_1.map elI)))), (5, (di ((k_3 : Nat) : Int))), (6, (ow 26))] [(26, (.row 3 1 (([n_2] ++ s_4).map elI)))]) _ (by kernel_rfl) (z3 (zc (show dfill (fun i => some (i * 1, 1)) (List.replicate (1 * 1) .junk) [(0, [(.dat (I n_2))])] = some ((flat ([n_2].map elI)).map .dat) from rfl) (z5 (zc e5 (z1 (zc (app_s elI elI_one ([n_2]) s_4 c6) (z2 zt))))))) ?_
  refine T_seq (T_parts ?_)
  refine TL_part 3 [] (mk 33 [(0, (dt (.sl 1 (l_1.map elI)))), (5, (di ((k_3 : Nat) : Int))), (6, (ow 26)), (27, (dt (.sl 1 (l_1.map elI)))), (28, (di ((k_3 : Nat) : Int))), (29, (di ((k_3 : Nat) : Int)))] [(26, (.row 3 1 (([n_2] ++ s_4).map elI)))]) _ (by kernel_rfl) (z6 zt) rfl ?_
  obtain ⟨c7, h⟩ := ck_inv h
  obtain ⟨c8, h⟩ := ck_inv h
  refine TL_cutApp 41 3 1 8 30 31 32 32 k_3 26 rfl rfl rfl rfl rfl rfl rfl rfl rfl (by decide) (by kernel_rfl) (by kernel_rfl) (by kernel_rfl) (by kernel_rfl) (by decide) (by decide) (l_1.map elI) (([n_2] ++ s_4).map elI) (by kernel_rfl) (by kernel_rfl) (by kernel_rfl) (by rw [List.length_map]; exact c7) (by kernel_rfl) (by kernel_rfl) (by simp) (elI_one _) (by rw [List.length_map]; exact c8) (by decide) ((l_1.take k_3 ++ ([n_2] ++ s_4)).map elI) (by simp only [List.map_append, List.map_take]) ?_
  refine TL_turn [] [6, 32] [] (mk 33 [(6, (ow 26)), (32, (ow 32))] [(32, (.row 3 1 ((l_1.take k_3 ++ ([n_2] ++ s_4)).map elI))), (26, (.row 3 1 (([n_2] ++ s_4).map elI)))]) (by kernel_rfl) ?_
  refine TL_part 1 [] (mk 33 [(4, (ow 32)), (6, (ow 26)), (32, (ow 32))] [(32, (.row 3 1 ((l_1.take k_3 ++ ([n_2] ++ s_4)).map elI))), (26, (.row 3 1 (([n_2] ++ s_4).map elI)))]) _ (by kernel_rfl) (z2 zt) rfl ?_
  refine TL_nilQ ?_
  refine T_turn [] [4] [26] (mk 33 [(4, (ow 32))] [(32, (.row 3 1 ((l_1.take k_3 ++ ([n_2] ++ s_4)).map elI)))]) (by kernel_rfl) ?_
  refine T_ret ?_
  obtain rfl := some_inv h
  exact ret_here [(ow 32)] (by kernel_rfl) rfl
  refine T_block ?_
  refine T_arr [] [0, 1, 5] [] [] _ (by kernel_rfl) (T_loopO (σ := Nat) (fun (k_9 : Nat) => (mk 33 [(0, (dt (.sl 1 (l_1.map elI)))), (1, (di n_2)), (5, (di ((k_9 : Nat) : Int)))] [])) (g_ref42_with_l2 l_1 n_2) 0 h (fun k_9 y1 hy1 h => ?_))
  refine T_seq ?_
  refine T_seqJ (α := Bool) (fun (v_11 : Bool) => (mk 33 [(0, (dt (.sl 1 (l_1.map elI)))), (1, (di n_2)), (5, (di ((k_9 : Nat) : Int))), (18, (db (v_11)))] [])) (fun (v_11 : Bool) => g_ref42_with_j3 k_9 l_1 n_2 v_11 = some y1) (fun v_11 h => ?_) ?_
  refine T_cond (v_11) (by kernel_rfl) (fun b12 => ?_) (fun b12 => ?_)
  replace h := ite_t b12 h
  refine T_skip ?_
  refine T_block ?_
  obtain ⟨c13, h⟩ := ckI_inv h
  exact T_regJ [zn, (zd (I ((k_9 + 1 : Nat) : Int)))] [] [0, 1, 5] [] [] _ _ (by kernel_rfl) (z3 (zc c13 (z2 zt))) (fun s hs => Exists.intro (k_9 + 1) (And.intro h hs))
  replace h := ite_f b12 h
  refine T_exit ?_
  replace h := up_inv h hy1
  exact Exists.intro k_9 (And.intro h (arr [] [0, 1, 5] [] [] (by kernel_rfl)))
  rcases Bool.eq_false_or_eq_true (decide (((k_9 : Nat) : Int) < ((l_1.length : Nat) : Int))) with b14 | b14
  replace h := ite_t b14 h
  obtain ⟨x_15, e16, e17, e18, h⟩ := gn_inv elI h
  exact T_regJ (hl 12 [(2, (zd (I ((l_1.length : Nat) : Int)))), (7, (zd (I x_15))), (11, (zd (B true)))]) [] [0, 1, 5, 18] [] [] _ _ (by kernel_rfl) (z5 (zc (len_s elI l_1) (z4 (zc (gd_tt b14) (z1 (zc (gd_tt b14) (z1 (zc (gd_tt b14) (zc e16 (zc (gd_tt b14) (z1 (zc (gd_tt b14) (z1 (zc (gd_tt b14) (z2 (zc b14 zt)))))))))))))))) (fun s hs => Exists.intro (decide (x_15 < n_2)) (And.intro h hs))
  replace h := ite_f b14 h
  exact T_regJ [zn, zn, (zd (I ((l_1.length : Nat) : Int))), zn, zn, zg, zg, zg, zg, zg, zg, (zd (B false))] [] [0, 1, 5, 18] [] [] _ _ (by kernel_rfl) (z5 (zc (len_s elI l_1) (z4 (zc (gd_ft b14) (zc (gd_ft b14) (zc (gd_ft b14) (zc (gd_ft b14) (zc (gd_ft b14) (zc (gd_ft b14) (z1 (zc b14 zt))))))))))) (fun s hs => Exists.intro false (And.intro h hs))

theorem g_ref42_Moves_ret {t_1 : Tab} {s_2 : Sch} {r : (List Int) × (List Int) × Int} (h : g_ref42_Moves t_1 s_2 = some r) : Ret Tryz.prog 18 [(encTab t_1), (encSch s_2)] (.tup [(.sl 1 (r.1.map elI)), (.sl 1 (r.2.1.map elI)), (I r.2.2)]) := by
  refine Ret.of_T Tryz.func18 (by kernel_rfl) rfl ?_
  refine T_turn [] [0, 1] [] (mk 65 [(0, (.agg (qTab t_1))), (1, (.agg (qSch s_2)))] []) (by kernel_rfl) ?_
  refine T_reg [] [2, 3] [] (mk 65 [(2, (rf 2 0)), (3, (rf 3 0))] [(3, (.var (qSch s_2))), (2, (.var (qTab t_1)))]) _ (by kernel_rfl) (z8 (z2 zt)) ?_
  obtain ⟨r_3, e4, h⟩ := bd_inv h
  refine T_reg [zn, zn, (zd (I r_3))] [2, 3, 7] [] (mk 65 [(2, (rf 2 0)), (3, (rf 3 0)), (7, (di r_3))] [(3, (.var (qSch s_2))), (2, (.var (qTab t_1)))]) _ (by kernel_rfl) (z5 (zc (g_ref42_checked_ret e4) (z2 zt))) ?_
  refine T_seq ?_
  refine T_reg [] [2, 3, 7, 16] [] (mk 65 [(2, (rf 2 0)), (3, (rf 3 0)), (7, (di r_3)), (16, (db (r_3 != 0)))] [(3, (.var (qSch s_2))), (2, (.var (qTab t_1)))]) _ (by kernel_rfl) (z4 zt) ?_
  refine T_cond (r_3 != 0) (by kernel_rfl) (fun b5 => ?_) (fun b5 => ?_)
  replace h := ite_t b5 h
  refine T_reg [] [4, 5, 6] [3, 2] (mk 65 [(4, (dt nilS)), (5, (dt nilS)), (6, (di r_3))] []) _ (by kernel_rfl) (z8 zt) ?_
  refine T_ret ?_
  obtain rfl := some_inv h
  exact ret_here [(dt nilS), (dt nilS), (di r_3)] (by kernel_rfl) ⟨(.inr ⟨rfl, 1, rfl⟩), (.inr ⟨rfl, 1, rfl⟩), (.inl rfl), trivial⟩
  replace h := ite_f b5 h
  refine T_skip ?_
  refine T_reg [zn, zn, (zd (I ((t_1.l.length : Nat) : Int)))] [2, 3, 8] [] (mk 65 [(2, (rf 2 0)), (3, (rf 3 0)), (8, (di ((t_1.l.length : Nat) : Int)))] [(3, (.var (qSch s_2))), (2, (.var (qTab t_1)))]) _ (by kernel_rfl) (z5 (zc (len_s encPlace t_1.l) (z2 zt))) ?_
  refine T_seq ?_
  obtain ⟨c6, h⟩ := ckI_inv h
  refine T_reg (hl 5 [(4, (zd (I (s_2.u + s_2.d))))]) [2, 3, 8, 27] [] (mk 65 [(2, (rf 2 0)), (3, (rf 3 0)), (8, (di ((t_1.l.length : Nat) : Int))), (27, (db (decide ((s_2.u + s_2.d) > ((t_1.l.length : Nat) : Int)))))] [(3, (.var (qSch s_2))), (2, (.var (qTab t_1)))]) _ (by kernel_rfl) (z8 (z1 (zc c6 (z4 zt)))) ?_
  refine T_cond (decide ((s_2.u + s_2.d) > ((t_1.l.length : Nat) : Int))) (by kernel_rfl) (fun b7 => ?_) (fun b7 => ?_)
  replace h := ite_t b7 h
  refine T_reg [] [4, 5, 6] [3, 2] (mk 65 [(4, (dt nilS)), (5, (dt nilS)), (6, (di 420))] []) _ (by kernel_rfl) (z6 zt) ?_
  refine T_ret ?_
  obtain rfl := some_inv h
  exact ret_here [(dt nilS), (dt nilS), (di 420)] (by kernel_rfl) ⟨(.inr ⟨rfl, 1, rfl⟩), (.inr ⟨rfl, 1, rfl⟩), (.inl rfl), trivial⟩
  replace h := ite_f b7 h
  refine T_skip ?_
  refine T_reg [] [2, 3, 8, 9] [] (mk 65 [(2, (rf 2 0)), (3, (rf 3 0)), (8, (di ((t_1.l.length : Nat) : Int))), (9, (ow 28))] [(28, (.row 3 1 (([] : List Int).map elI))), (3, (.var (qSch s_2))), (2, (.var (qTab t_1)))]) _ (by kernel_rfl) (z1 (zc (show dfill (fun i => some (i * 1, 1)) (List.replicate (0 * 1) .junk) [] = some ((flat (([] : List Int).map elI)).map .dat) from rfl) (z2 zt))) ?_
  refine T_reg [] [2, 3, 8, 9, 10] [] (mk 65 [(2, (rf 2 0)), (3, (rf 3 0)), (8, (di ((t_1.l.length : Nat) : Int))), (9, (ow 28)), (10, (ow 29))] [(29, (.row 3 1 (([] : List Int).map elI))), (28, (.row 3 1 (([] : List Int).map elI))), (3, (.var (qSch s_2))), (2, (.var (qTab t_1)))]) _ (by kernel_rfl) (z1 (zc (show dfill (fun i => some (i * 1, 1)) (List.replicate (0 * 1) .junk) [] = some ((flat (([] : List Int).map elI)).map .dat) from rfl) (z2 zt))) ?_
  refine T_seqJ (α := (List Int) × (List Int)) (fun ((up_8, down_9) : (List Int) × (List Int)) => (mk 65 [(9, (dt (.sl 1 (up_8.map elI)))), (10, (dt (.sl 1 (down_9.map elI))))] [])) (fun ((up_8, down_9) : (List Int) × (List Int)) => g_ref42_Moves_j1 up_8 down_9 = some r) (fun v h => ?_) ?_
  obtain ⟨up_8, down_9⟩ := v
  refine T_reg [] [4, 5, 6] [] (mk 65 [(4, (dt (.sl 1 (up_8.map elI)))), (5, (dt (.sl 1 (down_9.map elI)))), (6, (di 0))] []) _ (by kernel_rfl) (z8 (z2 zt)) ?_
  refine T_ret ?_
  obtain rfl := some_inv h
  exact ret_here [(dt (.sl 1 (up_8.map elI))), (dt (.sl 1 (down_9.map elI))), (di 0)] (by kernel_rfl) ⟨(.inl rfl), (.inl rfl), (.inl rfl), trivial⟩
  refine T_reg [] [2, 3, 8, 9, 10, 11] [] (mk 65 [(2, (rf 2 0)), (3, (rf 3 0)), (8, (di ((t_1.l.length : Nat) : Int))), (9, (ow 28)), (10, (ow 29)), (11, (di 0))] [(29, (.row 3 1 (([] : List Int).map elI))), (28, (.row 3 1 (([] : List Int).map elI))), (3, (.var (qSch s_2))), (2, (.var (qTab t_1)))]) _ (by kernel_rfl) (z2 zt) ?_
  refine T_block ?_
  refine T_arr [.ice 28, .ice 29] [2, 3, 8, 9, 10, 11] [] [2, 3] _ (by kernel_rfl) (T_loopO (σ := (List Int) × (List Int) × Nat) (fun ((up_10, down_11, i_12) : (List Int) × (List Int) × Nat) => (mk 65 [(2, (rf 2 0)), (3, (rf 3 0)), (8, (di ((t_1.l.length : Nat) : Int))), (9, (dt (.sl 1 (up_10.map elI)))), (10, (dt (.sl 1 (down_11.map elI)))), (11, (di ((i_12 : Nat) : Int)))] [(2, (.var (qTab t_1))), (3, (.var (qSch s_2)))])) (g_ref42_Moves_l2 t_1 s_2) (([] : List Int), ([] : List Int), 0) h (fun v y1 hy1 h => ?_))
  obtain ⟨up_10, down_11, i_12⟩ := v
  refine T_seq ?_
  refine T_reg [] [2, 3, 8, 9, 10, 11, 32] [] (mk 65 [(2, (rf 2 0)), (3, (rf 3 0)), (8, (di ((t_1.l.length : Nat) : Int))), (9, (dt (.sl 1 (up_10.map elI)))), (10, (dt (.sl 1 (down_11.map elI)))), (11, (di ((i_12 : Nat) : Int))), (32, (db (decide (((i_12 : Nat) : Int) < ((t_1.l.length : Nat) : Int)))))] [(2, (.var (qTab t_1))), (3, (.var (qSch s_2)))]) _ (by kernel_rfl) (z6 zt) ?_
  refine T_cond (decide (((i_12 : Nat) : Int) < ((t_1.l.length : Nat) : Int))) (by kernel_rfl) (fun b16 => ?_) (fun b16 => ?_)
  replace h := ite_t b16 h
  refine T_skip ?_
  refine T_seqJ (α := (List Int) × (List Int)) (fun ((up_17, down_18) : (List Int) × (List Int)) => (mk 65 [(2, (rf 2 0)), (3, (rf 3 0)), (8, (di ((t_1.l.length : Nat) : Int))), (9, (dt (.sl 1 (up_17.map elI)))), (10, (dt (.sl 1 (down_18.map elI)))), (11, (di ((i_12 : Nat) : Int)))] [(2, (.var (qTab t_1))), (3, (.var (qSch s_2)))])) (fun ((up_17, down_18) : (List Int) × (List Int)) => g_ref42_Moves_j3 i_12 t_1 s_2 up_17 down_18 = some y1) (fun v h => ?_) ?_
  obtain ⟨up_17, down_18⟩ := v
  obtain ⟨c19, h⟩ := ckI_inv h
  exact T_regJ [zn, (zd (I ((i_12 + 1 : Nat) : Int)))] [] [2, 3, 8, 9, 10, 11] [] [2, 3] _ _ (by kernel_rfl) (z3 (zc c19 (z2 zt))) (fun s hs => Exists.intro (up_17, down_18, i_12 + 1) (And.intro h hs))
  refine T_block ?_
  refine T_seqJ (α := List Int) (fun (up_20 : List Int) => (mk 65 [(2, (rf 2 0)), (3, (rf 3 0)), (8, (di ((t_1.l.length : Nat) : Int))), (9, (dt (.sl 1 (up_20.map elI)))), (10, (dt (.sl 1 (down_11.map elI)))), (11, (di ((i_12 : Nat) : Int)))] [(2, (.var (qTab t_1))), (3, (.var (qSch s_2)))])) (fun (up_20 : List Int) => g_ref42_Moves_j4 t_1 s_2 i_12 down_11 up_20 = some y1) (fun up_20 h => ?_) ?_
  obtain ⟨c21, h⟩ := ckI_inv h
  refine T_reg (hl 5 [(4, (zd (I (((t_1.l.length : Nat) : Int) - s_2.d))))]) [2, 3, 8, 9, 10, 11, 53] [] (mk 65 [(2, (rf 2 0)), (3, (rf 3 0)), (8, (di ((t_1.l.length : Nat) : Int))), (9, (dt (.sl 1 (up_20.map elI)))), (10, (dt (.sl 1 (down_11.map elI)))), (11, (di ((i_12 : Nat) : Int))), (53, (db (decide (((i_12 : Nat) : Int) ≥ (((t_1.l.length : Nat) : Int) - s_2.d)))))] [(2, (.var (qTab t_1))), (3, (.var (qSch s_2)))]) _ (by kernel_rfl) (z8 (z1 (zc c21 (z2 zt)))) ?_
  refine T_cond (decide (((i_12 : Nat) : Int) ≥ (((t_1.l.length : Nat) : Int) - s_2.d))) (by kernel_rfl) (fun b22 => ?_) (fun b22 => ?_)
  replace h := ite_t b22 h
  obtain ⟨x_23, e24, e25, e26, h⟩ := gn_inv encPlace h
  obtain ⟨r_27, e28, h⟩ := bd_inv h
  exact T_regJ (hl 9 [(4, (zd (encPlace x_23))), (8, (zd (.sl 1 (r_27.map elI))))]) [] [2, 3, 8, 9, 10, 11] [] [2, 3] _ _ (by kernel_rfl) (z8 (z1 (zc e24 (z7 (zc (g_ref42_with_ret e28) (z2 zt)))))) (fun s hs => Exists.intro (up_20, r_27) (And.intro h hs))
  replace h := ite_f b22 h
  refine T_skip ?_
  exact Exists.intro (up_20, down_11) (And.intro h (arr [] [2, 3, 8, 9, 10, 11] [] [2, 3] (by kernel_rfl)))
  refine T_reg [] [2, 3, 8, 9, 10, 11, 38] [] (mk 65 [(2, (rf 2 0)), (3, (rf 3 0)), (8, (di ((t_1.l.length : Nat) : Int))), (9, (dt (.sl 1 (up_10.map elI)))), (10, (dt (.sl 1 (down_11.map elI)))), (11, (di ((i_12 : Nat) : Int))), (38, (db (decide (((i_12 : Nat) : Int) < s_2.u))))] [(2, (.var (qTab t_1))), (3, (.var (qSch s_2)))]) _ (by kernel_rfl) (z8 zt) ?_
  refine T_cond (decide (((i_12 : Nat) : Int) < s_2.u)) (by kernel_rfl) (fun b29 => ?_) (fun b29 => ?_)
  replace h := ite_t b29 h
  obtain ⟨x_30, e31, e32, e33, h⟩ := gn_inv encPlace h
  obtain ⟨r_34, e35, h⟩ := bd_inv h
  exact T_regJ (hl 9 [(4, (zd (encPlace x_30))), (8, (zd (.sl 1 (r_34.map elI))))]) [] [2, 3, 8, 9, 10, 11] [] [2, 3] _ _ (by kernel_rfl) (z8 (z1 (zc e31 (z7 (zc (g_ref42_with_ret e35) (z2 zt)))))) (fun s hs => Exists.intro r_34 (And.intro h hs))
  replace h := ite_f b29 h
  refine T_skip ?_
  exact Exists.intro up_10 (And.intro h (arr [] [2, 3, 8, 9, 10, 11] [] [2, 3] (by kernel_rfl)))
  replace h := ite_f b16 h
  refine T_exit ?_
  replace h := up_inv h hy1
  exact Exists.intro (up_10, down_11) (And.intro h (arr [] [9, 10] [2, 3] [] (by kernel_rfl)))

theorem g_ref42_of_ret {tables_1 : List Tab} {schemes_2 : List Sch} {comp_3 : Int} {r : Tab × Sch × Bool} (h : g_ref42_of tables_1 schemes_2 comp_3 = some r) : Ret Tryz.prog 52 [(.sl 3 (tables_1.map encTab)), (.sl 6 (schemes_2.map encSch)), (I comp_3)] (.tup [(encTab r.1), (encSch r.2.1), (B (r.2.2))]) := by
  refine Ret.of_T Tryz.func52 (by kernel_rfl) rfl ?_
  refine T_turn [] [0, 1, 2] [] (mk 49 [(0, (dt (.sl 3 (tables_1.map encTab)))), (1, (dt (.sl 6 (schemes_2.map encSch)))), (2, (di comp_3))] []) (by kernel_rfl) ?_
  refine T_reg [] [0, 1, 2, 6, 7] [] (mk 49 [(0, (dt (.sl 3 (tables_1.map encTab)))), (1, (dt (.sl 6 (schemes_2.map encSch)))), (2, (di comp_3)), (6, (rf 6 0)), (7, (rf 7 0))] [(7, (.var [(.dat (I 0)), (.dat nilS), (.dat (I 0)), (.dat (I 0)), (.dat (I 0)), (.dat (I 0))])), (6, (.var [(.dat (I 0)), (.dat (I 0)), (.dat nilS)]))]) _ (by kernel_rfl) (z6 zt) ?_
  refine T_seqJ (α := Unit) (fun (_ : Unit) => (mk 49 [(6, (rf 6 0)), (7, (rf 7 0))] [(6, (.var [(.dat (I 0)), (.dat (I 0)), (.dat nilS)])), (7, (.var [(.dat (I 0)), (.dat nilS), (.dat (I 0)), (.dat (I 0)), (.dat (I 0)), (.dat (I 0))]))])) (fun (_ : Unit) => g_ref42_of_j1 = some r) (fun v h => ?_) ?_
  refine T_reg [] [6, 7, 8] [] (mk 49 [(6, (rf 6 0)), (7, (rf 7 0)), (8, (db false))] [(6, (.var [(.dat (I 0)), (.dat (I 0)), (.dat nilS)])), (7, (.var [(.dat (I 0)), (.dat nilS), (.dat (I 0)), (.dat (I 0)), (.dat (I 0)), (.dat (I 0))]))]) _ (by kernel_rfl) (z8 (z2 zt)) ?_
  refine T_ret ?_
  obtain rfl := some_inv h
  exact ret_here [(.agg [(.dat (I 0)), (.dat (I 0)), (.dat nilS)]), (.agg [(.dat (I 0)), (.dat nilS), (.dat (I 0)), (.dat (I 0)), (.dat (I 0)), (.dat (I 0))]), (db false)] (by kernel_rfl) ⟨⟨(.inl rfl), (.inl rfl), (.inr ⟨rfl, 14, rfl⟩), trivial⟩, ⟨(.inl rfl), (.inr ⟨rfl, 3, rfl⟩), (.inl rfl), (.inl rfl), (.inl rfl), (.inl rfl), trivial⟩, (.inl rfl), trivial⟩
  refine T_reg [] [0, 1, 2, 6, 7, 9] [] (mk 49 [(0, (dt (.sl 3 (tables_1.map encTab)))), (1, (dt (.sl 6 (schemes_2.map encSch)))), (2, (di comp_3)), (6, (rf 6 0)), (7, (rf 7 0)), (9, (di 0))] [(7, (.var [(.dat (I 0)), (.dat nilS), (.dat (I 0)), (.dat (I 0)), (.dat (I 0)), (.dat (I 0))])), (6, (.var [(.dat (I 0)), (.dat (I 0)), (.dat nilS)]))]) _ (by kernel_rfl) (z2 zt) ?_
  refine T_block ?_
  refine T_arr [] [0, 1, 2, 6, 7, 9] [] [6, 7] _ (by kernel_rfl) (T_loopO (σ := Nat) (fun (i_4 : Nat) => (mk 49 [(0, (dt (.sl 3 (tables_1.map encTab)))), (1, (dt (.sl 6 (schemes_2.map encSch)))), (2, (di comp_3)), (6, (rf 6 0)), (7, (rf 7 0)), (9, (di ((i_4 : Nat) : Int)))] [(6, (.var [(.dat (I 0)), (.dat (I 0)), (.dat nilS)])), (7, (.var [(.dat (I 0)), (.dat nilS), (.dat (I 0)), (.dat (I 0)), (.dat (I 0)), (.dat (I 0))]))])) (g_ref42_of_l2 tables_1 schemes_2 comp_3) 0 h (fun i_4 y1 hy1 h => ?_))
  refine T_seq ?_
  refine T_reg [zn, zn, (zd (I ((tables_1.length : Nat) : Int)))] [0, 1, 2, 6, 7, 9, 14] [] (mk 49 [(0, (dt (.sl 3 (tables_1.map encTab)))), (1, (dt (.sl 6 (schemes_2.map encSch)))), (2, (di comp_3)), (6, (rf 6 0)), (7, (rf 7 0)), (9, (di ((i_4 : Nat) : Int))), (14, (db (decide (((i_4 : Nat) : Int) < ((tables_1.length : Nat) : Int)))))] [(6, (.var [(.dat (I 0)), (.dat (I 0)), (.dat nilS)])), (7, (.var [(.dat (I 0)), (.dat nilS), (.dat (I 0)), (.dat (I 0)), (.dat (I 0)), (.dat (I 0))]))]) _ (by kernel_rfl) (z5 (zc (len_s encTab tables_1) (z2 zt))) ?_
  refine T_cond (decide (((i_4 : Nat) : Int) < ((tables_1.length : Nat) : Int))) (by kernel_rfl) (fun b6 => ?_) (fun b6 => ?_)
  replace h := ite_t b6 h
  refine T_skip ?_
  refine T_seqJ (α := Unit) (fun (_ : Unit) => (mk 49 [(0, (dt (.sl 3 (tables_1.map encTab)))), (1, (dt (.sl 6 (schemes_2.map encSch)))), (2, (di comp_3)), (6, (rf 6 0)), (7, (rf 7 0)), (9, (di ((i_4 : Nat) : Int)))] [(6, (.var [(.dat (I 0)), (.dat (I 0)), (.dat nilS)])), (7, (.var [(.dat (I 0)), (.dat nilS), (.dat (I 0)), (.dat (I 0)), (.dat (I 0)), (.dat (I 0))]))])) (fun (_ : Unit) => g_ref42_of_j3 i_4 tables_1 schemes_2 comp_3 = some y1) (fun v h => ?_) ?_
  obtain ⟨c7, h⟩ := ckI_inv h
  exact T_regJ [zn, (zd (I ((i_4 + 1 : Nat) : Int)))] [] [0, 1, 2, 6, 7, 9] [] [6, 7] _ _ (by kernel_rfl) (z3 (zc c7 (z2 zt))) (fun s hs => Exists.intro (i_4 + 1) (And.intro h hs))
  refine T_block ?_
  refine T_reg [] [0, 1, 2, 6, 7, 9, 10] [] (mk 49 [(0, (dt (.sl 3 (tables_1.map encTab)))), (1, (dt (.sl 6 (schemes_2.map encSch)))), (2, (di comp_3)), (6, (rf 6 0)), (7, (rf 7 0)), (9, (di ((i_4 : Nat) : Int))), (10, (di 0))] [(6, (.var [(.dat (I 0)), (.dat (I 0)), (.dat nilS)])), (7, (.var [(.dat (I 0)), (.dat nilS), (.dat (I 0)), (.dat (I 0)), (.dat (I 0)), (.dat (I 0))]))]) _ (by kernel_rfl) (z2 zt) ?_
  refine T_block ?_
  refine T_arr [] [0, 1, 2, 6, 7, 9, 10] [] [6, 7] _ (by kernel_rfl) (T_loopO (σ := Nat) (fun (k_8 : Nat) => (mk 49 [(0, (dt (.sl 3 (tables_1.map encTab)))), (1, (dt (.sl 6 (schemes_2.map encSch)))), (2, (di comp_3)), (6, (rf 6 0)), (7, (rf 7 0)), (9, (di ((i_4 : Nat) : Int))), (10, (di ((k_8 : Nat) : Int)))] [(6, (.var [(.dat (I 0)), (.dat (I 0)), (.dat nilS)])), (7, (.var [(.dat (I 0)), (.dat nilS), (.dat (I 0)), (.dat (I 0)), (.dat (I 0)), (.dat (I 0))]))])) (g_ref42_of_l4 schemes_2 tables_1 i_4 comp_3) 0 h (fun k_8 y2 hy2 h => ?_))
  refine T_seq ?_
  refine T_seqJ (α := Bool) (fun (v_10 : Bool) => (mk 49 [(0, (dt (.sl 3 (tables_1.map encTab)))), (1, (dt (.sl 6 (schemes_2.map encSch)))), (2, (di comp_3)), (6, (rf 6 0)), (7, (rf 7 0)), (9, (di ((i_4 : Nat) : Int))), (10, (di ((k_8 : Nat) : Int))), (29, (db (v_10)))] [(6, (.var [(.dat (I 0)), (.dat (I 0)), (.dat nilS)])), (7, (.var [(.dat (I 0)), (.dat nilS), (.dat (I 0)), (.dat (I 0)), (.dat (I 0)), (.dat (I 0))]))])) (fun (v_10 : Bool) => g_ref42_of_j5 schemes_2 k_8 comp_3 tables_1 i_4 v_10 = some y2) (fun v_10 h => ?_) ?_
  refine T_cond (v_10) (by kernel_rfl) (fun b11 => ?_) (fun b11 => ?_)
  replace h := ite_t b11 h
  refine T_skip ?_
  refine T_seq ?_
  refine T_block ?_
  obtain ⟨x_12, e13, e14, e15, h⟩ := gn_inv encSch h
  refine T_reg [zn, zn, (zd (encSch x_12))] [0, 1, 2, 6, 7, 9, 10, 38] [] (mk 49 [(0, (dt (.sl 3 (tables_1.map encTab)))), (1, (dt (.sl 6 (schemes_2.map encSch)))), (2, (di comp_3)), (6, (rf 6 0)), (7, (rf 7 0)), (9, (di ((i_4 : Nat) : Int))), (10, (di ((k_8 : Nat) : Int))), (38, (db (x_12.c == comp_3)))] [(6, (.var [(.dat (I 0)), (.dat (I 0)), (.dat nilS)])), (7, (.var [(.dat (I 0)), (.dat nilS), (.dat (I 0)), (.dat (I 0)), (.dat (I 0)), (.dat (I 0))]))]) _ (by kernel_rfl) (z5 (zc e13 (z8 zt))) ?_
  refine T_cond (x_12.c == comp_3) (by kernel_rfl) (fun b16 => ?_) (fun b16 => ?_)
  replace h := ite_t b16 h
  refine T_arr [] [0, 1, 2, 6, 7, 9, 10, 38] [] [6, 7] (mk 49 [(0, (dt (.sl 3 (tables_1.map encTab)))), (1, (dt (.sl 6 (schemes_2.map encSch)))), (2, (di comp_3)), (6, (rf 6 0)), (7, (rf 7 0)), (9, (di ((i_4 : Nat) : Int))), (10, (di ((k_8 : Nat) : Int))), (38, (db (x_12.c == comp_3)))] [(6, (.var [(.dat (I 0)), (.dat (I 0)), (.dat nilS)])), (7, (.var [(.dat (I 0)), (.dat nilS), (.dat (I 0)), (.dat (I 0)), (.dat (I 0)), (.dat (I 0))]))]) (by kernel_rfl) ?_
  obtain ⟨x_17, e18, e19, e20, h⟩ := gn_inv encTab h
  refine T_anyUS [{}, {}, { h := zd (encTab x_17) }, {}, {}, {}, { h := zd (encSch x_12) }, {}, {}, {}, {}] _ (mk 49 [(0, (dt (.sl 3 (tables_1.map encTab)))), (1, (dt (.sl 6 (schemes_2.map encSch)))), (2, (di comp_3)), (6, (rf 6 0)), (7, (rf 7 0)), (9, (di ((i_4 : Nat) : Int))), (10, (di ((k_8 : Nat) : Int))), (38, (db (x_12.c == comp_3)))] [(6, (.var [(.dat (I 0)), (.dat (I 0)), (.dat nilS)])), (7, (.var [(.dat (I 0)), (.dat nilS), (.dat (I 0)), (.dat (I 0)), (.dat (I 0)), (.dat (I 0))]))]) [(0, 39, (dt (.sl 3 (tables_1.map encTab)))), (1, 40, (di ((i_4 : Nat) : Int))), (2, 41, (dt (.ptr [(I x_17.s), (I x_17.c), (.sl 14 (x_17.l.map encPlace))]))), (3, 42, (.agg (qTab x_17))), (4, 43, (dt (.sl 6 (schemes_2.map encSch)))), (5, 44, (di ((k_8 : Nat) : Int))), (6, 45, (dt (.ptr [(I x_12.c), (.sl 3 (x_12.p.map encPrize)), (I x_12.u), (I x_12.d), (I x_12.ab), (I x_12.be)]))), (7, 46, (.agg (qSch x_12))), (10, 8, (db true))] [(8, 6, some (.var (qTab x_17))), (9, 7, some (.var (qSch x_12)))] [6, 7] [0, 1, 2, 3, 7, 15, 16, 17, 18, 19, 23, 31, 32, 33, 34, 35, 39, 47, 48, 49, 50, 51, 55, 63, 112, 113, 114, 115, 119, 127, 240, 241, 242, 243, 247, 255, 271, 287, 303, 319, 383, 511, 1023, 2047] (by kernel_rfl) (by decide) (by kernel_rfl) (by kernel_rfl) (by kernel_rfl) (zs (zc zt zt) (zs (zc zt zt) (zs (zc zt e18) (zs (zc zt zt) (zs (zc zt zt) (zs (zc zt zt) (zs (zc zt e13) (zs (zc zt zt) (zs (zc zt zt) (zs (zc zt zt) (zs (zc zt zt) zS))))))))))) ?_
  refine T_turn [] [6, 7, 8] [] (mk 49 [(6, (rf 6 0)), (7, (rf 7 0)), (8, (db true))] [(6, (.var (qTab x_17))), (7, (.var (qSch x_12)))]) (by kernel_rfl) ?_
  refine T_ret ?_
  replace h := up_inv h hy2
  replace h := up_inv h hy1
  obtain rfl := some_inv h
  exact ret_here [(.agg (qTab x_17)), (.agg (qSch x_12)), (db true)] (by kernel_rfl) ⟨⟨(.inl rfl), (.inl rfl), (.inl rfl), trivial⟩, ⟨(.inl rfl), (.inl rfl), (.inl rfl), (.inl rfl), (.inl rfl), (.inl rfl), trivial⟩, (.inl rfl), trivial⟩
  replace h := ite_f b16 h
  refine T_skip ?_
  obtain ⟨c21, h⟩ := ckI_inv h
  exact T_regJ [zn, (zd (I ((k_8 + 1 : Nat) : Int)))] [] [0, 1, 2, 6, 7, 9, 10] [] [6, 7] _ _ (by kernel_rfl) (z3 (zc c21 (z2 zt))) (fun s hs => Exists.intro (k_8 + 1) (And.intro h hs))
  replace h := ite_f b11 h
  refine T_exit ?_
  replace h := up_inv h hy2
  exact Exists.intro () (And.intro h (arr [] [0, 1, 2, 6, 7, 9] [] [6, 7] (by kernel_rfl)))
  rcases Bool.eq_false_or_eq_true (decide (((k_8 : Nat) : Int) < ((schemes_2.length : Nat) : Int))) with b22 | b22
  replace h := ite_t b22 h
  obtain ⟨x_23, e24, e25, e26, h⟩ := gn_inv encTab h
  exact T_regJ (hl 13 [(2, (zd (I ((schemes_2.length : Nat) : Int)))), (7, (zd (encTab x_23))), (12, (zd (B true)))]) [] [0, 1, 2, 6, 7, 9, 10, 29] [] [6, 7] _ _ (by kernel_rfl) (z5 (zc (len_s encSch schemes_2) (z4 (zc (gd_tt b22) (z1 (zc (gd_tt b22) (z1 (zc (gd_tt b22) (zc e24 (zc (gd_tt b22) (z1 (zc (gd_tt b22) (z1 (zc (gd_tt b22) (z1 (zc (gd_tt b22) (z2 (zc b22 zt)))))))))))))))))) (fun s hs => Exists.intro (x_23.c == comp_3) (And.intro h hs))
  replace h := ite_f b22 h
  exact T_regJ [zn, zn, (zd (I ((schemes_2.length : Nat) : Int))), zn, zn, zg, zg, zg, zg, zg, zg, zg, (zd (B false))] [] [0, 1, 2, 6, 7, 9, 10, 29] [] [6, 7] _ _ (by kernel_rfl) (z5 (zc (len_s encSch schemes_2) (z4 (zc (gd_ft b22) (zc (gd_ft b22) (zc (gd_ft b22) (zc (gd_ft b22) (zc (gd_ft b22) (zc (gd_ft b22) (zc (gd_ft b22) (z1 (zc b22 zt)))))))))))) (fun s hs => Exists.intro false (And.intro h hs))
  replace h := ite_f b6 h
  refine T_exit ?_
  replace h := up_inv h hy1
  exact Exists.intro () (And.intro h (arr [] [6, 7] [] [6, 7] (by kernel_rfl)))

theorem g_ref42_member_ret {l_1 : List Int} {n_2 : Int} {r : Bool} (h : g_ref42_member l_1 n_2 = some r) : Ret Tryz.prog 53 [(.sl 1 (l_1.map elI)), (I n_2)] (B (r)) := by
  refine Ret.of_T Tryz.func53 (by kernel_rfl) rfl ?_
  refine T_turn [] [0, 1] [] (mk 18 [(0, (dt (.sl 1 (l_1.map elI)))), (1, (di n_2))] []) (by kernel_rfl) ?_
  refine T_reg [] [0, 1] [] (mk 18 [(0, (dt (.sl 1 (l_1.map elI)))), (1, (di n_2))] []) _ (by kernel_rfl) (z2 zt) ?_
  refine T_seqJ (α := Unit) (fun (_ : Unit) => (mk 18 [] [])) (fun (_ : Unit) => g_ref42_member_j1 = some r) (fun v h => ?_) ?_
  refine T_reg [] [4] [] (mk 18 [(4, (db false))] []) _ (by kernel_rfl) (z2 zt) ?_
  refine T_ret ?_
  obtain rfl := some_inv h
  exact ret_here [(db false)] (by kernel_rfl) (.inl rfl)
  refine T_reg [] [0, 1, 5] [] (mk 18 [(0, (dt (.sl 1 (l_1.map elI)))), (1, (di n_2)), (5, (di 0))] []) _ (by kernel_rfl) (z2 zt) ?_
  refine T_block ?_
  refine T_arr [] [0, 1, 5] [] [] _ (by kernel_rfl) (T_loopO (σ := Nat) (fun (i_3 : Nat) => (mk 18 [(0, (dt (.sl 1 (l_1.map elI)))), (1, (di n_2)), (5, (di ((i_3 : Nat) : Int)))] [])) (g_ref42_member_l2 l_1 n_2) 0 h (fun i_3 y1 hy1 h => ?_))
  refine T_seq ?_
  refine T_reg [zn, zn, (zd (I ((l_1.length : Nat) : Int)))] [0, 1, 5, 9] [] (mk 18 [(0, (dt (.sl 1 (l_1.map elI)))), (1, (di n_2)), (5, (di ((i_3 : Nat) : Int))), (9, (db (decide (((i_3 : Nat) : Int) < ((l_1.length : Nat) : Int)))))] []) _ (by kernel_rfl) (z5 (zc (len_s elI l_1) (z2 zt))) ?_
  refine T_cond (decide (((i_3 : Nat) : Int) < ((l_1.length : Nat) : Int))) (by kernel_rfl) (fun b5 => ?_) (fun b5 => ?_)
  replace h := ite_t b5 h
  refine T_skip ?_
  refine T_seq ?_
  refine T_block ?_
  obtain ⟨x_6, e7, e8, e9, h⟩ := gn_inv elI h
  refine T_reg [zn, zn, (zd (I x_6))] [0, 1, 5, 17] [] (mk 18 [(0, (dt (.sl 1 (l_1.map elI)))), (1, (di n_2)), (5, (di ((i_3 : Nat) : Int))), (17, (db (x_6 == n_2)))] []) _ (by kernel_rfl) (z5 (zc e7 (z6 zt))) ?_
  refine T_cond (x_6 == n_2) (by kernel_rfl) (fun b10 => ?_) (fun b10 => ?_)
  replace h := ite_t b10 h
  refine T_reg [] [4] [] (mk 18 [(4, (db true))] []) _ (by kernel_rfl) (z2 zt) ?_
  refine T_ret ?_
  replace h := up_inv h hy1
  obtain rfl := some_inv h
  exact ret_here [(db true)] (by kernel_rfl) (.inl rfl)
  replace h := ite_f b10 h
  refine T_skip ?_
  obtain ⟨c11, h⟩ := ckI_inv h
  exact T_regJ [zn, (zd (I ((i_3 + 1 : Nat) : Int)))] [] [0, 1, 5] [] [] _ _ (by kernel_rfl) (z3 (zc c11 (z2 zt))) (fun s hs => Exists.intro (i_3 + 1) (And.intro h hs))
  replace h := ite_f b5 h
  refine T_exit ?_
  replace h := up_inv h hy1
  exact Exists.intro () (And.intro h (arr [] [] [] [] (by kernel_rfl)))

end Go.Proofs.YtoiiblkncbnlaaaGreat

/-
  Go functions as partial functions, printed by auto.py: what each returns when its partial function has a value. Conditions: those of each theorem.
-/
namespace Go.Proofs.YtoiiblkncbnlaaaGreat
open Go.DL
set_option maxRecDepth 100000
set_option maxHeartbeats 4000000
set_option linter.unusedVariables false
set_option linter.unusedSimpArgs false
theorem g_ref42_Next_ret {tables_1 : List Tab} {schemes_2 : List Sch} {comp_3 : Int} {r : (List Int) × Int} (h : g_ref42_Next tables_1 schemes_2 comp_3 = some r) : Ret Tryz.prog 21 [(.sl 3 (tables_1.map encTab)), (.sl 6 (schemes_2.map encSch)), (I comp_3)] (.tup [(.sl 1 (r.1.map elI)), (I r.2)]) := by
  refine Ret.of_T Tryz.func21 (by kernel_rfl) rfl ?_
  refine T_turn [] [0, 1, 2] [] (mk 188 [(0, (dt (.sl 3 (tables_1.map encTab)))), (1, (dt (.sl 6 (schemes_2.map encSch)))), (2, (di comp_3))] []) (by kernel_rfl) ?_
  refine T_reg [] [0, 1, 2] [] (mk 188 [(0, (dt (.sl 3 (tables_1.map encTab)))), (1, (dt (.sl 6 (schemes_2.map encSch)))), (2, (di comp_3))] []) _ (by kernel_rfl) (z4 zt) ?_
  obtain ⟨r_4, e5, h⟩ := bd_inv h
  refine T_reg [zn, zn, zn, (zd (.tup [(encTab r_4.1), (encSch r_4.2.1), (B (r_4.2.2))]))] [0, 1, 2, 8, 9, 10] [] (mk 188 [(0, (dt (.sl 3 (tables_1.map encTab)))), (1, (dt (.sl 6 (schemes_2.map encSch)))), (2, (di comp_3)), (8, (rf 8 0)), (9, (rf 9 0)), (10, (db (r_4.2.2)))] [(9, (.var (qSch r_4.2.1))), (8, (.var (qTab r_4.1)))]) _ (by kernel_rfl) (z7 (zc (g_ref42_of_ret e5) (z8 (z8 (z2 zt))))) ?_
  refine T_seq ?_
  refine T_reg [] [0, 1, 2, 8, 9, 40] [] (mk 188 [(0, (dt (.sl 3 (tables_1.map encTab)))), (1, (dt (.sl 6 (schemes_2.map encSch)))), (2, (di comp_3)), (8, (rf 8 0)), (9, (rf 9 0)), (40, (db (!(r_4.2.2))))] [(9, (.var (qSch r_4.2.1))), (8, (.var (qTab r_4.1)))]) _ (by kernel_rfl) (z4 zt) ?_
  refine T_cond (!(r_4.2.2)) (by kernel_rfl) (fun b6 => ?_) (fun b6 => ?_)
  replace h := ite_t b6 h
  refine T_reg [] [6, 7] [9, 8] (mk 188 [(6, (dt nilS)), (7, (di 420))] []) _ (by kernel_rfl) (z4 zt) ?_
  refine T_ret ?_
  obtain rfl := some_inv h
  exact ret_here [(dt nilS), (di 420)] (by kernel_rfl) ⟨(.inr ⟨rfl, 1, rfl⟩), (.inl rfl), trivial⟩
  replace h := ite_f b6 h
  refine T_skip ?_
  obtain ⟨r_7, e8, h⟩ := bd_inv h
  refine T_reg [zn, zn, (zd (.tup [(.sl 1 (r_7.1.map elI)), (.sl 1 (r_7.2.1.map elI)), (I r_7.2.2)]))] [0, 1, 2, 8, 9, 11, 12, 13] [] (mk 188 [(0, (dt (.sl 3 (tables_1.map encTab)))), (1, (dt (.sl 6 (schemes_2.map encSch)))), (2, (di comp_3)), (8, (rf 8 0)), (9, (rf 9 0)), (11, (dt (.sl 1 (r_7.1.map elI)))), (12, (dt (.sl 1 (r_7.2.1.map elI)))), (13, (di r_7.2.2))] [(9, (.var (qSch r_4.2.1))), (8, (.var (qTab r_4.1)))]) _ (by kernel_rfl) (z5 (zc (g_ref42_Moves_ret e8) (z8 (z6 zt)))) ?_
  refine T_seq ?_
  refine T_reg [] [0, 1, 2, 8, 9, 11, 12, 13, 49] [] (mk 188 [(0, (dt (.sl 3 (tables_1.map encTab)))), (1, (dt (.sl 6 (schemes_2.map encSch)))), (2, (di comp_3)), (8, (rf 8 0)), (9, (rf 9 0)), (11, (dt (.sl 1 (r_7.1.map elI)))), (12, (dt (.sl 1 (r_7.2.1.map elI)))), (13, (di r_7.2.2)), (49, (db (r_7.2.2 != 0)))] [(9, (.var (qSch r_4.2.1))), (8, (.var (qTab r_4.1)))]) _ (by kernel_rfl) (z4 zt) ?_
  refine T_cond (r_7.2.2 != 0) (by kernel_rfl) (fun b9 => ?_) (fun b9 => ?_)
  replace h := ite_t b9 h
  refine T_reg [] [6, 7] [9, 8] (mk 188 [(6, (dt nilS)), (7, (di r_7.2.2))] []) _ (by kernel_rfl) (z6 zt) ?_
  refine T_ret ?_
  obtain rfl := some_inv h
  exact ret_here [(dt nilS), (di r_7.2.2)] (by kernel_rfl) ⟨(.inr ⟨rfl, 1, rfl⟩), (.inl rfl), trivial⟩
  replace h := ite_f b9 h
  refine T_skip ?_
  refine T_reg [] [0, 1, 2, 8, 9, 11, 12, 14] [] (mk 188 [(0, (dt (.sl 3 (tables_1.map encTab)))), (1, (dt (.sl 6 (schemes_2.map encSch)))), (2, (di comp_3)), (8, (rf 8 0)), (9, (rf 9 0)), (11, (dt (.sl 1 (r_7.1.map elI)))), (12, (dt (.sl 1 (r_7.2.1.map elI)))), (14, (ow 51))] [(51, (.row 3 1 (([] : List Int).map elI))), (9, (.var (qSch r_4.2.1))), (8, (.var (qTab r_4.1)))]) _ (by kernel_rfl) (z1 (zc (show dfill (fun i => some (i * 1, 1)) (List.replicate (0 * 1) .junk) [] = some ((flat (([] : List Int).map elI)).map .dat) from rfl) (z2 zt))) ?_
  refine T_seqJ (α := List Int) (fun (l_10 : List Int) => (mk 188 [(0, (dt (.sl 3 (tables_1.map encTab)))), (1, (dt (.sl 6 (schemes_2.map encSch)))), (2, (di comp_3)), (8, (rf 8 0)), (9, (rf 9 0)), (11, (dt (.sl 1 (r_7.1.map elI)))), (12, (dt (.sl 1 (r_7.2.1.map elI)))), (14, (ow 51))] [(8, (.var (qTab r_4.1))), (9, (.var (qSch r_4.2.1))), (51, (.row 3 1 (l_10.map elI)))])) (fun (l_10 : List Int) => g_ref42_Next_j1 r_4 tables_1 schemes_2 r_7 comp_3 l_10 = some r) (fun l_10 h => ?_) ?_
  refine T_seqJ (α := List Int) (fun (l_11 : List Int) => (mk 188 [(8, (rf 8 0)), (11, (dt (.sl 1 (r_7.1.map elI)))), (12, (dt (.sl 1 (r_7.2.1.map elI)))), (14, (ow 51))] [(8, (.var (qTab r_4.1))), (51, (.row 3 1 (l_11.map elI)))])) (fun (l_11 : List Int) => g_ref42_Next_j2 r_4 r_7 l_11 = some r) (fun l_11 h => ?_) ?_
  refine T_seqJ (α := List Int) (fun (l_12 : List Int) => (mk 188 [(14, (ow 51))] [(51, (.row 3 1 (l_12.map elI)))])) (fun (l_12 : List Int) => g_ref42_Next_j3 l_12 = some r) (fun l_12 h => ?_) ?_
  refine T_reg [] [14, 29] [] (mk 188 [(14, (ow 51)), (29, (ow 160))] [(160, (.row 3 1 (([] : List Int).map elI))), (51, (.row 3 1 (l_12.map elI)))]) _ (by kernel_rfl) (z1 (zc (show dfill (fun i => some (i * 1, 1)) (List.replicate (0 * 1) .junk) [] = some ((flat (([] : List Int).map elI)).map .dat) from rfl) (z2 zt))) ?_
  refine T_seqJ (α := List Int) (fun (out_13 : List Int) => (mk 188 [(29, (dt (.sl 1 (out_13.map elI))))] [])) (fun (out_13 : List Int) => g_ref42_Next_j4 out_13 = some r) (fun out_13 h => ?_) ?_
  refine T_seq ?_
  refine T_seqJ (α := Bool) (fun (v_14 : Bool) => (mk 188 [(29, (dt (.sl 1 (out_13.map elI)))), (186, (db (v_14)))] [])) (fun (v_14 : Bool) => g_ref42_Next_j5 out_13 v_14 = some r) (fun v_14 h => ?_) ?_
  refine T_cond (v_14) (by kernel_rfl) (fun b15 => ?_) (fun b15 => ?_)
  replace h := ite_t b15 h
  refine T_reg [] [6, 7] [] (mk 188 [(6, (dt nilS)), (7, (di 190))] []) _ (by kernel_rfl) (z4 zt) ?_
  refine T_ret ?_
  obtain rfl := some_inv h
  exact ret_here [(dt nilS), (di 190)] (by kernel_rfl) ⟨(.inr ⟨rfl, 1, rfl⟩), (.inl rfl), trivial⟩
  replace h := ite_f b15 h
  refine T_skip ?_
  refine T_reg [] [6, 7] [] (mk 188 [(6, (dt (.sl 1 (out_13.map elI)))), (7, (di 0))] []) _ (by kernel_rfl) (z6 zt) ?_
  refine T_ret ?_
  obtain rfl := some_inv h
  exact ret_here [(dt (.sl 1 (out_13.map elI))), (di 0)] (by kernel_rfl) ⟨(.inl rfl), (.inl rfl), trivial⟩
  rcases Bool.eq_false_or_eq_true (decide (((out_13.length : Nat) : Int) < 2)) with b16 | b16
  replace h := ite_t b16 h
  exact T_regJ [zn, (zd (I ((out_13.length : Nat) : Int))), zn, zn, zg, zg, zg, (zd (B true))] [] [29, 186] [] [] _ _ (by kernel_rfl) (z3 (zc (len_s elI out_13) (z4 (zc (gd_tf b16) (zc (gd_tf b16) (zc (gd_tf b16) (z1 (zc b16 zt)))))))) (fun s hs => Exists.intro true (And.intro h hs))
  replace h := ite_f b16 h
  exact T_regJ [zn, (zd (I ((out_13.length : Nat) : Int))), zn, zn, zn, (zd (I ((out_13.length : Nat) : Int))), zn, (zd (B false))] [] [29, 186] [] [] _ _ (by kernel_rfl) (z3 (zc (len_s elI out_13) (z4 (zc (gd_ff b16) (z1 (zc (gd_ff b16) (zc (len_s elI out_13) (zc (gd_ff b16) (z2 (zc b16 zt)))))))))) (fun s hs => Exists.intro (decide (((out_13.length : Nat) : Int) > 24)) (And.intro h hs))
  refine T_reg [] [14, 29, 30] [] (mk 188 [(14, (ow 51)), (29, (ow 160)), (30, (di 0))] [(160, (.row 3 1 (([] : List Int).map elI))), (51, (.row 3 1 (l_12.map elI)))]) _ (by kernel_rfl) (z2 zt) ?_
  refine T_block ?_
  refine T_arr [.ice 160] [14, 29, 30] [] [51] _ (by kernel_rfl) (T_loopO (σ := (List Int) × Nat) (fun ((out_17, i_18) : (List Int) × Nat) => (mk 188 [(14, (ow 51)), (29, (dt (.sl 1 (out_17.map elI)))), (30, (di ((i_18 : Nat) : Int)))] [(51, (.row 3 1 (l_12.map elI)))])) (g_ref42_Next_l6 l_12) (([] : List Int), 0) h (fun v y1 hy1 h => ?_))
  obtain ⟨out_17, i_18⟩ := v
  refine T_seq ?_
  refine T_reg [zn, zn, (zd (I ((l_12.length : Nat) : Int)))] [14, 29, 30, 164] [] (mk 188 [(14, (ow 51)), (29, (dt (.sl 1 (out_17.map elI)))), (30, (di ((i_18 : Nat) : Int))), (164, (db (decide (((i_18 : Nat) : Int) < ((l_12.length : Nat) : Int)))))] [(51, (.row 3 1 (l_12.map elI)))]) _ (by kernel_rfl) (z5 (zc (len_s elI l_12) (z2 zt))) ?_
  refine T_cond (decide (((i_18 : Nat) : Int) < ((l_12.length : Nat) : Int))) (by kernel_rfl) (fun b21 => ?_) (fun b21 => ?_)
  replace h := ite_t b21 h
  refine T_skip ?_
  refine T_seq ?_
  refine T_block ?_
  refine T_seq ?_
  obtain ⟨x_22, e23, e24, e25, h⟩ := gn_inv elI h
  obtain ⟨r_26, e27, h⟩ := bd_inv h
  refine T_reg [zn, zn, zn, zn, (zd (I x_22)), (zd (B (r_26)))] [14, 29, 30, 172] [] (mk 188 [(14, (ow 51)), (29, (dt (.sl 1 (out_17.map elI)))), (30, (di ((i_18 : Nat) : Int))), (172, (db (r_26)))] [(51, (.row 3 1 (l_12.map elI)))]) _ (by kernel_rfl) (z7 (zc e24 (z1 (zc e25 (z1 (zc (g_ref42_member_ret e27) zt)))))) ?_
  refine T_cond (r_26) (by kernel_rfl) (fun b28 => ?_) (fun b28 => ?_)
  replace h := ite_t b28 h
  refine T_reg [] [6, 7] [51] (mk 188 [(6, (dt nilS)), (7, (di 190))] []) _ (by kernel_rfl) (z4 zt) ?_
  refine T_ret ?_
  replace h := up_inv h hy1
  obtain rfl := some_inv h
  exact ret_here [(dt nilS), (di 190)] (by kernel_rfl) ⟨(.inr ⟨rfl, 1, rfl⟩), (.inl rfl), trivial⟩
  replace h := ite_f b28 h
  refine T_skip ?_
  obtain ⟨r_29, e30, h⟩ := bd_inv h
  refine T_regE [zn, zn, zn, zn, (zd (I x_22)), (zd (.sl 1 (r_29.map elI)))] (mk 188 [(14, (ow 51)), (29, (dt (.sl 1 (r_29.map elI)))), (30, (di ((i_18 : Nat) : Int))), (172, (db (r_26))), (173, (dt (.sl 1 (out_17.map elI)))), (174, (ow 51)), (175, (di ((i_18 : Nat) : Int))), (176, (.one (.rref 51 i_18 0))), (177, (di x_22)), (178, (dt (.sl 1 (r_29.map elI))))] [(51, (.row 3 1 (l_12.map elI)))]) _ (by kernel_rfl) (z7 (zc e24 (z1 (zc e25 (z1 (zc (g_ref42_with_ret e30) (z2 zt))))))) ?_
  obtain ⟨c31, h⟩ := ckI_inv h
  exact T_regJ [zn, (zd (I ((i_18 + 1 : Nat) : Int)))] [] [14, 29, 30] [] [51] _ _ (by kernel_rfl) (z3 (zc c31 (z2 zt))) (fun s hs => Exists.intro (r_29, i_18 + 1) (And.intro h hs))
  replace h := ite_f b21 h
  refine T_exit ?_
  replace h := up_inv h hy1
  exact Exists.intro out_17 (And.intro h (arr [] [29] [51] [] (by kernel_rfl)))
  refine T_reg [] [8, 11, 12, 14, 27] [] (mk 188 [(8, (rf 8 0)), (11, (dt (.sl 1 (r_7.1.map elI)))), (12, (dt (.sl 1 (r_7.2.1.map elI)))), (14, (ow 51)), (27, (di 0))] [(8, (.var (qTab r_4.1))), (51, (.row 3 1 (l_11.map elI)))]) _ (by kernel_rfl) (z2 zt) ?_
  refine T_block ?_
  refine T_arr [] [8, 11, 12, 14, 27] [] [8, 51] _ (by kernel_rfl) (T_loopO (σ := Nat × (List Int)) (fun ((i_32, l_33) : Nat × (List Int)) => (mk 188 [(8, (rf 8 0)), (11, (dt (.sl 1 (r_7.1.map elI)))), (12, (dt (.sl 1 (r_7.2.1.map elI)))), (14, (ow 51)), (27, (di ((i_32 : Nat) : Int)))] [(8, (.var (qTab r_4.1))), (51, (.row 3 1 (l_33.map elI)))])) (g_ref42_Next_l7 r_4 r_7) (0, l_11) h (fun v y1 hy1 h => ?_))
  obtain ⟨i_32, l_33⟩ := v
  refine T_seq ?_
  refine T_reg [zn, zn, zn, (zd (I ((r_4.1.l.length : Nat) : Int)))] [8, 11, 12, 14, 27, 136] [] (mk 188 [(8, (rf 8 0)), (11, (dt (.sl 1 (r_7.1.map elI)))), (12, (dt (.sl 1 (r_7.2.1.map elI)))), (14, (ow 51)), (27, (di ((i_32 : Nat) : Int))), (136, (db (decide (((i_32 : Nat) : Int) < ((r_4.1.l.length : Nat) : Int)))))] [(8, (.var (qTab r_4.1))), (51, (.row 3 1 (l_33.map elI)))]) _ (by kernel_rfl) (z7 (zc (len_s encPlace r_4.1.l) (z2 zt))) ?_
  refine T_cond (decide (((i_32 : Nat) : Int) < ((r_4.1.l.length : Nat) : Int))) (by kernel_rfl) (fun b36 => ?_) (fun b36 => ?_)
  replace h := ite_t b36 h
  refine T_skip ?_
  refine T_seqJ (α := List Int) (fun (l_37 : List Int) => (mk 188 [(8, (rf 8 0)), (11, (dt (.sl 1 (r_7.1.map elI)))), (12, (dt (.sl 1 (r_7.2.1.map elI)))), (14, (ow 51)), (27, (di ((i_32 : Nat) : Int)))] [(8, (.var (qTab r_4.1))), (51, (.row 3 1 (l_37.map elI)))])) (fun (l_37 : List Int) => g_ref42_Next_j8 i_32 r_7 r_4 l_37 = some y1) (fun l_37 h => ?_) ?_
  obtain ⟨c38, h⟩ := ckI_inv h
  exact T_regJ [zn, (zd (I ((i_32 + 1 : Nat) : Int)))] [] [8, 11, 12, 14, 27] [] [8, 51] _ _ (by kernel_rfl) (z3 (zc c38 (z2 zt))) (fun s hs => Exists.intro (i_32 + 1, l_37) (And.intro h hs))
  refine T_block ?_
  obtain ⟨x_39, e40, e41, e42, h⟩ := gn_inv encPlace h
  refine T_reg [zn, zn, zn, (zd (encPlace x_39))] [8, 11, 12, 14, 27, 28] [] (mk 188 [(8, (rf 8 0)), (11, (dt (.sl 1 (r_7.1.map elI)))), (12, (dt (.sl 1 (r_7.2.1.map elI)))), (14, (ow 51)), (27, (di ((i_32 : Nat) : Int))), (28, (di x_39.r.c))] [(8, (.var (qTab r_4.1))), (51, (.row 3 1 (l_33.map elI)))]) _ (by kernel_rfl) (z7 (zc e40 (z8 zt))) ?_
  refine T_seqJ (α := Bool) (fun (v_43 : Bool) => (mk 188 [(8, (rf 8 0)), (11, (dt (.sl 1 (r_7.1.map elI)))), (12, (dt (.sl 1 (r_7.2.1.map elI)))), (14, (ow 51)), (27, (di ((i_32 : Nat) : Int))), (28, (di x_39.r.c)), (155, (db (v_43)))] [(8, (.var (qTab r_4.1))), (51, (.row 3 1 (l_33.map elI)))])) (fun (v_43 : Bool) => g_ref42_Next_j9 l_33 x_39 i_32 r_7 r_4 v_43 = some y1) (fun v_43 h => ?_) ?_
  refine T_cond (v_43) (by kernel_rfl) (fun b44 => ?_) (fun b44 => ?_)
  replace h := ite_t b44 h
  obtain ⟨c45, h⟩ := ck_inv h
  exact T_regJ [zn, zn, zn, (zd (.sl 1 ((l_33 ++ [x_39.r.c]).map elI)))] [.ren 159 51] [8, 11, 12, 14, 27] [158] [8, 51] _ _ (by kernel_rfl) (z5 (zc (show dfill (fun i => some (i * 1, 1)) (List.replicate (1 * 1) .junk) [(0, [(.dat (I x_39.r.c))])] = some ((flat ([x_39.r.c].map elI)).map .dat) from rfl) (z1 (zc (app_s elI elI_one l_33 ([x_39.r.c]) c45) (z2 zt))))) (fun s hs => Exists.intro (l_33 ++ [x_39.r.c]) (And.intro h hs))
  replace h := ite_f b44 h
  refine T_skip ?_
  exact Exists.intro l_33 (And.intro h (arr [] [8, 11, 12, 14, 27] [] [8, 51] (by kernel_rfl)))
  obtain ⟨r_46, e47, h⟩ := bd_inv h
  rcases Bool.eq_false_or_eq_true (!(r_46)) with b48 | b48
  replace h := ite_t b48 h
  obtain ⟨r_49, e50, h⟩ := bd_inv h
  exact T_regJ (hl 10 [(2, (zd (B (r_46)))), (7, (zd (B (r_49)))), (9, (zd (B true)))]) [] [8, 11, 12, 14, 27, 28, 155] [] [8, 51] _ _ (by kernel_rfl) (z5 (zc (g_ref42_member_ret e47) (z4 (zc (gd_tt b48) (z1 (zc (gd_tt b48) (z1 (zc (gd_tt b48) (zc (g_ref42_member_ret e50) (zc (gd_tt b48) (z2 (zc b48 zt)))))))))))) (fun s hs => Exists.intro (!(r_49)) (And.intro h hs))
  replace h := ite_f b48 h
  exact T_regJ [zn, zn, (zd (B (r_46))), zn, zn, zg, zg, zg, zg, (zd (B false))] [] [8, 11, 12, 14, 27, 28, 155] [] [8, 51] _ _ (by kernel_rfl) (z5 (zc (g_ref42_member_ret e47) (z4 (zc (gd_ft b48) (zc (gd_ft b48) (zc (gd_ft b48) (zc (gd_ft b48) (z1 (zc b48 zt))))))))) (fun s hs => Exists.intro false (And.intro h hs))
  replace h := ite_f b36 h
  refine T_exit ?_
  replace h := up_inv h hy1
  exact Exists.intro l_33 (And.intro h (arr [] [14] [8] [51] (by kernel_rfl)))
  refine T_reg [] [0, 1, 2, 8, 9, 11, 12, 14, 94] [] (mk 188 [(0, (dt (.sl 3 (tables_1.map encTab)))), (1, (dt (.sl 6 (schemes_2.map encSch)))), (2, (di comp_3)), (8, (rf 8 0)), (9, (rf 9 0)), (11, (dt (.sl 1 (r_7.1.map elI)))), (12, (dt (.sl 1 (r_7.2.1.map elI)))), (14, (ow 51)), (94, (db (r_4.2.1.be != (-1))))] [(8, (.var (qTab r_4.1))), (9, (.var (qSch r_4.2.1))), (51, (.row 3 1 (l_10.map elI)))]) _ (by kernel_rfl) (z6 zt) ?_
  refine T_cond (r_4.2.1.be != (-1)) (by kernel_rfl) (fun b51 => ?_) (fun b51 => ?_)
  replace h := ite_t b51 h
  obtain ⟨r_52, e53, h⟩ := bd_inv h
  refine T_reg (hl 5 [(4, (zd (.tup [(encTab r_52.1), (encSch r_52.2.1), (B (r_52.2.2))])))]) [2, 8, 11, 12, 14, 21, 22, 23] [9] (mk 188 [(2, (di comp_3)), (8, (rf 8 0)), (11, (dt (.sl 1 (r_7.1.map elI)))), (12, (dt (.sl 1 (r_7.2.1.map elI)))), (14, (ow 51)), (21, (rf 21 0)), (22, (rf 22 0)), (23, (db (r_52.2.2)))] [(22, (.var (qSch r_52.2.1))), (21, (.var (qTab r_52.1))), (8, (.var (qTab r_4.1))), (51, (.row 3 1 (l_10.map elI)))]) _ (by kernel_rfl) (z8 (z1 (zc (g_ref42_of_ret e53) (z8 (z8 (z2 zt)))))) ?_
  refine T_seq ?_
  refine T_seqJ (α := Bool) (fun (v_54 : Bool) => (mk 188 [(8, (rf 8 0)), (11, (dt (.sl 1 (r_7.1.map elI)))), (12, (dt (.sl 1 (r_7.2.1.map elI)))), (14, (ow 51)), (21, (rf 21 0)), (22, (rf 22 0)), (118, (db (v_54)))] [(8, (.var (qTab r_4.1))), (21, (.var (qTab r_52.1))), (22, (.var (qSch r_52.2.1))), (51, (.row 3 1 (l_10.map elI)))])) (fun (v_54 : Bool) => g_ref42_Next_j10 r_52 l_10 r_4 r_7 v_54 = some r) (fun v_54 h => ?_) ?_
  refine T_cond (v_54) (by kernel_rfl) (fun b55 => ?_) (fun b55 => ?_)
  replace h := ite_t b55 h
  refine T_reg [] [6, 7] [8, 21, 22, 51] (mk 188 [(6, (dt nilS)), (7, (di 420))] []) _ (by kernel_rfl) (z4 zt) ?_
  refine T_ret ?_
  obtain rfl := some_inv h
  exact ret_here [(dt nilS), (di 420)] (by kernel_rfl) ⟨(.inr ⟨rfl, 1, rfl⟩), (.inl rfl), trivial⟩
  replace h := ite_f b55 h
  refine T_skip ?_
  obtain ⟨r_56, e57, h⟩ := bd_inv h
  refine T_reg [zn, zn, (zd (.tup [(.sl 1 (r_56.1.map elI)), (.sl 1 (r_56.2.1.map elI)), (I r_56.2.2)]))] [8, 11, 12, 14, 24, 26] [21, 22] (mk 188 [(8, (rf 8 0)), (11, (dt (.sl 1 (r_7.1.map elI)))), (12, (dt (.sl 1 (r_7.2.1.map elI)))), (14, (ow 51)), (24, (dt (.sl 1 (r_56.1.map elI)))), (26, (di r_56.2.2))] [(8, (.var (qTab r_4.1))), (51, (.row 3 1 (l_10.map elI)))]) _ (by kernel_rfl) (z5 (zc (g_ref42_Moves_ret e57) (z8 (z6 zt)))) ?_
  refine T_seq ?_
  refine T_reg [] [8, 11, 12, 14, 24, 26, 127] [] (mk 188 [(8, (rf 8 0)), (11, (dt (.sl 1 (r_7.1.map elI)))), (12, (dt (.sl 1 (r_7.2.1.map elI)))), (14, (ow 51)), (24, (dt (.sl 1 (r_56.1.map elI)))), (26, (di r_56.2.2)), (127, (db (r_56.2.2 != 0)))] [(8, (.var (qTab r_4.1))), (51, (.row 3 1 (l_10.map elI)))]) _ (by kernel_rfl) (z4 zt) ?_
  refine T_cond (r_56.2.2 != 0) (by kernel_rfl) (fun b58 => ?_) (fun b58 => ?_)
  replace h := ite_t b58 h
  refine T_reg [] [6, 7] [8, 51] (mk 188 [(6, (dt nilS)), (7, (di r_56.2.2))] []) _ (by kernel_rfl) (z6 zt) ?_
  refine T_ret ?_
  obtain rfl := some_inv h
  exact ret_here [(dt nilS), (di r_56.2.2)] (by kernel_rfl) ⟨(.inr ⟨rfl, 1, rfl⟩), (.inl rfl), trivial⟩
  replace h := ite_f b58 h
  refine T_skip ?_
  obtain ⟨c59, h⟩ := ck_inv h
  exact T_regJ [zn, zn, (zd (.sl 1 ((l_10 ++ r_56.1).map elI)))] [.ren 131 51] [8, 11, 12, 14] [] [8, 51] _ _ (by kernel_rfl) (z5 (zc (app_s elI elI_one l_10 r_56.1 c59) (z2 zt))) (fun s hs => Exists.intro (l_10 ++ r_56.1) (And.intro h hs))
  rcases Bool.eq_false_or_eq_true (!(r_52.2.2)) with b60 | b60
  replace h := ite_t b60 h
  exact T_regJ [zn, zn, zn, zg, zg, zg, zg, zg, (zd (B true)), zn, zg, zg, zg, zg, (zd (B true))] [] [8, 11, 12, 14, 21, 22, 118] [] [8, 21, 22, 51] _ _ (by kernel_rfl) (z6 (zc (gd_tf b60) (zc (gd_tf b60) (zc (gd_tf b60) (zc (gd_tf b60) (zc (gd_tf b60) (z1 (zc b60 (z2 (zc (gd_tf (rfl : true = true)) (zc (gd_tf (rfl : true = true)) (zc (gd_tf (rfl : true = true)) (zc (gd_tf (rfl : true = true)) (z1 (zc (rfl : true = true) zt))))))))))))))) (fun s hs => Exists.intro true (And.intro h hs))
  replace h := ite_f b60 h
  rcases Bool.eq_false_or_eq_true (r_52.1.s != r_4.1.s) with b61 | b61
  replace h := ite_t b61 h
  exact T_regJ [zn, zn, zn, zn, zn, zn, zn, zn, (zd (B false)), zn, zg, zg, zg, zg, (zd (B true))] [] [8, 11, 12, 14, 21, 22, 118] [] [8, 21, 22, 51] _ _ (by kernel_rfl) (z6 (zc (gd_ff b60) (z1 (zc (gd_ff b60) (z1 (zc (gd_ff b60) (z1 (zc (gd_ff b60) (z1 (zc (gd_ff b60) (z2 (zc b60 (z2 (zc (gd_tf b61) (zc (gd_tf b61) (zc (gd_tf b61) (zc (gd_tf b61) (z1 (zc b61 zt))))))))))))))))))) (fun s hs => Exists.intro true (And.intro h hs))
  replace h := ite_f b61 h
  exact T_regJ (hl 15 [(8, (zd (B false))), (14, (zd (B false)))]) [] [8, 11, 12, 14, 21, 22, 118] [] [8, 21, 22, 51] _ _ (by kernel_rfl) (z6 (zc (gd_ff b60) (z1 (zc (gd_ff b60) (z1 (zc (gd_ff b60) (z1 (zc (gd_ff b60) (z1 (zc (gd_ff b60) (z2 (zc b60 (z2 (zc (gd_ff b61) (z1 (zc (gd_ff b61) (z1 (zc (gd_ff b61) (z1 (zc (gd_ff b61) (z2 (zc b61 zt)))))))))))))))))))))) (fun s hs => Exists.intro (r_52.2.1.ab != comp_3) (And.intro h hs))
  replace h := ite_f b51 h
  refine T_skip ?_
  exact Exists.intro l_10 (And.intro h (arr [] [8, 11, 12, 14] [9] [8, 51] (by kernel_rfl)))
  refine T_reg [] [0, 1, 2, 8, 9, 11, 12, 14, 54] [] (mk 188 [(0, (dt (.sl 3 (tables_1.map encTab)))), (1, (dt (.sl 6 (schemes_2.map encSch)))), (2, (di comp_3)), (8, (rf 8 0)), (9, (rf 9 0)), (11, (dt (.sl 1 (r_7.1.map elI)))), (12, (dt (.sl 1 (r_7.2.1.map elI)))), (14, (ow 51)), (54, (db (r_4.2.1.ab != (-1))))] [(51, (.row 3 1 (([] : List Int).map elI))), (9, (.var (qSch r_4.2.1))), (8, (.var (qTab r_4.1)))]) _ (by kernel_rfl) (z6 zt) ?_
  refine T_cond (r_4.2.1.ab != (-1)) (by kernel_rfl) (fun b62 => ?_) (fun b62 => ?_)
  replace h := ite_t b62 h
  obtain ⟨r_63, e64, h⟩ := bd_inv h
  refine T_reg (hl 5 [(4, (zd (.tup [(encTab r_63.1), (encSch r_63.2.1), (B (r_63.2.2))])))]) [0, 1, 2, 8, 9, 11, 12, 14, 15, 16, 17] [] (mk 188 [(0, (dt (.sl 3 (tables_1.map encTab)))), (1, (dt (.sl 6 (schemes_2.map encSch)))), (2, (di comp_3)), (8, (rf 8 0)), (9, (rf 9 0)), (11, (dt (.sl 1 (r_7.1.map elI)))), (12, (dt (.sl 1 (r_7.2.1.map elI)))), (14, (ow 51)), (15, (rf 15 0)), (16, (rf 16 0)), (17, (db (r_63.2.2)))] [(16, (.var (qSch r_63.2.1))), (15, (.var (qTab r_63.1))), (51, (.row 3 1 (([] : List Int).map elI))), (9, (.var (qSch r_4.2.1))), (8, (.var (qTab r_4.1)))]) _ (by kernel_rfl) (z8 (z1 (zc (g_ref42_of_ret e64) (z8 (z8 (z2 zt)))))) ?_
  refine T_seq ?_
  refine T_seqJ (α := Bool) (fun (v_65 : Bool) => (mk 188 [(0, (dt (.sl 3 (tables_1.map encTab)))), (1, (dt (.sl 6 (schemes_2.map encSch)))), (2, (di comp_3)), (8, (rf 8 0)), (9, (rf 9 0)), (11, (dt (.sl 1 (r_7.1.map elI)))), (12, (dt (.sl 1 (r_7.2.1.map elI)))), (14, (ow 51)), (15, (rf 15 0)), (16, (rf 16 0)), (78, (db (v_65)))] [(8, (.var (qTab r_4.1))), (9, (.var (qSch r_4.2.1))), (15, (.var (qTab r_63.1))), (16, (.var (qSch r_63.2.1))), (51, (.row 3 1 (([] : List Int).map elI)))])) (fun (v_65 : Bool) => g_ref42_Next_j11 r_63 r_4 tables_1 schemes_2 r_7 comp_3 v_65 = some r) (fun v_65 h => ?_) ?_
  refine T_cond (v_65) (by kernel_rfl) (fun b66 => ?_) (fun b66 => ?_)
  replace h := ite_t b66 h
  refine T_reg [] [6, 7] [8, 9, 15, 16, 51] (mk 188 [(6, (dt nilS)), (7, (di 420))] []) _ (by kernel_rfl) (z4 zt) ?_
  refine T_ret ?_
  obtain rfl := some_inv h
  exact ret_here [(dt nilS), (di 420)] (by kernel_rfl) ⟨(.inr ⟨rfl, 1, rfl⟩), (.inl rfl), trivial⟩
  replace h := ite_f b66 h
  refine T_skip ?_
  obtain ⟨r_67, e68, h⟩ := bd_inv h
  refine T_reg [zn, zn, (zd (.tup [(.sl 1 (r_67.1.map elI)), (.sl 1 (r_67.2.1.map elI)), (I r_67.2.2)]))] [0, 1, 2, 8, 9, 11, 12, 14, 19, 20] [15, 16] (mk 188 [(0, (dt (.sl 3 (tables_1.map encTab)))), (1, (dt (.sl 6 (schemes_2.map encSch)))), (2, (di comp_3)), (8, (rf 8 0)), (9, (rf 9 0)), (11, (dt (.sl 1 (r_7.1.map elI)))), (12, (dt (.sl 1 (r_7.2.1.map elI)))), (14, (ow 51)), (19, (dt (.sl 1 (r_67.2.1.map elI)))), (20, (di r_67.2.2))] [(8, (.var (qTab r_4.1))), (9, (.var (qSch r_4.2.1))), (51, (.row 3 1 (([] : List Int).map elI)))]) _ (by kernel_rfl) (z5 (zc (g_ref42_Moves_ret e68) (z8 (z6 zt)))) ?_
  refine T_seq ?_
  refine T_reg [] [0, 1, 2, 8, 9, 11, 12, 14, 19, 20, 87] [] (mk 188 [(0, (dt (.sl 3 (tables_1.map encTab)))), (1, (dt (.sl 6 (schemes_2.map encSch)))), (2, (di comp_3)), (8, (rf 8 0)), (9, (rf 9 0)), (11, (dt (.sl 1 (r_7.1.map elI)))), (12, (dt (.sl 1 (r_7.2.1.map elI)))), (14, (ow 51)), (19, (dt (.sl 1 (r_67.2.1.map elI)))), (20, (di r_67.2.2)), (87, (db (r_67.2.2 != 0)))] [(8, (.var (qTab r_4.1))), (9, (.var (qSch r_4.2.1))), (51, (.row 3 1 (([] : List Int).map elI)))]) _ (by kernel_rfl) (z4 zt) ?_
  refine T_cond (r_67.2.2 != 0) (by kernel_rfl) (fun b69 => ?_) (fun b69 => ?_)
  replace h := ite_t b69 h
  refine T_reg [] [6, 7] [8, 9, 51] (mk 188 [(6, (dt nilS)), (7, (di r_67.2.2))] []) _ (by kernel_rfl) (z6 zt) ?_
  refine T_ret ?_
  obtain rfl := some_inv h
  exact ret_here [(dt nilS), (di r_67.2.2)] (by kernel_rfl) ⟨(.inr ⟨rfl, 1, rfl⟩), (.inl rfl), trivial⟩
  replace h := ite_f b69 h
  refine T_skip ?_
  obtain ⟨c70, h⟩ := ck_inv h
  exact T_regJ [zn, zn, (zd (.sl 1 (r_67.2.1.map elI)))] [.ren 91 51] [0, 1, 2, 8, 9, 11, 12, 14] [] [8, 9, 51] _ _ (by kernel_rfl) (z5 (zc (app_s1 elI elI_one r_67.2.1 c70) (z2 zt))) (fun s hs => Exists.intro r_67.2.1 (And.intro h hs))
  rcases Bool.eq_false_or_eq_true (!(r_63.2.2)) with b71 | b71
  replace h := ite_t b71 h
  exact T_regJ [zn, zn, zn, zg, zg, zg, zg, zg, (zd (B true)), zn, zg, zg, zg, zg, (zd (B true))] [] [0, 1, 2, 8, 9, 11, 12, 14, 15, 16, 78] [] [8, 9, 15, 16, 51] _ _ (by kernel_rfl) (z6 (zc (gd_tf b71) (zc (gd_tf b71) (zc (gd_tf b71) (zc (gd_tf b71) (zc (gd_tf b71) (z1 (zc b71 (z2 (zc (gd_tf (rfl : true = true)) (zc (gd_tf (rfl : true = true)) (zc (gd_tf (rfl : true = true)) (zc (gd_tf (rfl : true = true)) (z1 (zc (rfl : true = true) zt))))))))))))))) (fun s hs => Exists.intro true (And.intro h hs))
  replace h := ite_f b71 h
  rcases Bool.eq_false_or_eq_true (r_63.1.s != r_4.1.s) with b72 | b72
  replace h := ite_t b72 h
  exact T_regJ [zn, zn, zn, zn, zn, zn, zn, zn, (zd (B false)), zn, zg, zg, zg, zg, (zd (B true))] [] [0, 1, 2, 8, 9, 11, 12, 14, 15, 16, 78] [] [8, 9, 15, 16, 51] _ _ (by kernel_rfl) (z6 (zc (gd_ff b71) (z1 (zc (gd_ff b71) (z1 (zc (gd_ff b71) (z1 (zc (gd_ff b71) (z1 (zc (gd_ff b71) (z2 (zc b71 (z2 (zc (gd_tf b72) (zc (gd_tf b72) (zc (gd_tf b72) (zc (gd_tf b72) (z1 (zc b72 zt))))))))))))))))))) (fun s hs => Exists.intro true (And.intro h hs))
  replace h := ite_f b72 h
  exact T_regJ (hl 15 [(8, (zd (B false))), (14, (zd (B false)))]) [] [0, 1, 2, 8, 9, 11, 12, 14, 15, 16, 78] [] [8, 9, 15, 16, 51] _ _ (by kernel_rfl) (z6 (zc (gd_ff b71) (z1 (zc (gd_ff b71) (z1 (zc (gd_ff b71) (z1 (zc (gd_ff b71) (z1 (zc (gd_ff b71) (z2 (zc b71 (z2 (zc (gd_ff b72) (z1 (zc (gd_ff b72) (z1 (zc (gd_ff b72) (z1 (zc (gd_ff b72) (z2 (zc b72 zt)))))))))))))))))))))) (fun s hs => Exists.intro (r_63.2.1.be != comp_3) (And.intro h hs))
  replace h := ite_f b62 h
  refine T_skip ?_
  exact Exists.intro ([] : List Int) (And.intro h (arr [] [0, 1, 2, 8, 9, 11, 12, 14] [] [8, 9, 51] (by kernel_rfl)))

theorem g_law42_PrizesNextSpec_ret {tables_1 : List Tab} {schemes_2 : List Sch} {comp_3 : Int} {r : Bool} (h : g_law42_PrizesNextSpec tables_1 schemes_2 comp_3 = some r) : Ret Tryz.prog 5 [(.sl 3 (tables_1.map encTab)), (.sl 6 (schemes_2.map encSch)), (I comp_3)] (B (r)) := by
  refine Ret.of_T Tryz.func5 (by kernel_rfl) rfl ?_
  refine T_turn [] [0, 1, 2] [] (mk 39 [(0, (dt (.sl 3 (tables_1.map encTab)))), (1, (dt (.sl 6 (schemes_2.map encSch)))), (2, (di comp_3))] []) (by kernel_rfl) ?_
  refine T_reg [] [0, 1, 2] [] (mk 39 [(0, (dt (.sl 3 (tables_1.map encTab)))), (1, (dt (.sl 6 (schemes_2.map encSch)))), (2, (di comp_3))] []) _ (by kernel_rfl) (z2 zt) ?_
  refine T_seq ?_
  obtain ⟨r_4, e5, h⟩ := bd_inv h
  refine T_reg [(zd (B (r_4)))] [0, 1, 2, 12] [] (mk 39 [(0, (dt (.sl 3 (tables_1.map encTab)))), (1, (dt (.sl 6 (schemes_2.map encSch)))), (2, (di comp_3)), (12, (db (!(r_4))))] []) _ (by kernel_rfl) (z1 (zc (g_law42_sane_ret e5) (z2 zt))) ?_
  refine T_cond (!(r_4)) (by kernel_rfl) (fun b6 => ?_) (fun b6 => ?_)
  replace h := ite_t b6 h
  refine T_reg [] [6] [] (mk 39 [(6, (db false))] []) _ (by kernel_rfl) (z2 zt) ?_
  refine T_ret ?_
  obtain rfl := some_inv h
  exact ret_here [(db false)] (by kernel_rfl) (.inl rfl)
  replace h := ite_f b6 h
  refine T_skip ?_
  refine T_seq ?_
  obtain ⟨r_7, e8, h⟩ := bd_inv h
  refine T_reg [zn, zn, (zd (B (r_7)))] [0, 1, 2, 16] [] (mk 39 [(0, (dt (.sl 3 (tables_1.map encTab)))), (1, (dt (.sl 6 (schemes_2.map encSch)))), (2, (di comp_3)), (16, (db (!(r_7))))] []) _ (by kernel_rfl) (z5 (zc (g_ref42_Few_ret e8) (z2 zt))) ?_
  refine T_cond (!(r_7)) (by kernel_rfl) (fun b9 => ?_) (fun b9 => ?_)
  replace h := ite_t b9 h
  refine T_reg [] [6] [] (mk 39 [(6, (db true))] []) _ (by kernel_rfl) (z2 zt) ?_
  refine T_ret ?_
  obtain rfl := some_inv h
  exact ret_here [(db true)] (by kernel_rfl) (.inl rfl)
  replace h := ite_f b9 h
  refine T_skip ?_
  obtain ⟨r_10, e11, h⟩ := bd_inv h
  refine T_reg [zn, zn, zn, (zd (.tup [(.sl 1 (r_10.1.map elI)), (I r_10.2)]))] [0, 1, 2, 7, 8] [] (mk 39 [(0, (dt (.sl 3 (tables_1.map encTab)))), (1, (dt (.sl 6 (schemes_2.map encSch)))), (2, (di comp_3)), (7, (dt (.sl 1 (r_10.1.map elI)))), (8, (di r_10.2))] []) _ (by kernel_rfl) (z7 (zc (g_prizes_Next_ret e11) (z8 (z2 zt)))) ?_
  obtain ⟨r_12, e13, h⟩ := bd_inv h
  refine T_reg [zn, zn, zn, (zd (.tup [(.sl 1 (r_12.1.map elI)), (I r_12.2)]))] [7, 8, 9, 10] [] (mk 39 [(7, (dt (.sl 1 (r_10.1.map elI)))), (8, (di r_10.2)), (9, (dt (.sl 1 (r_12.1.map elI)))), (10, (di r_12.2))] []) _ (by kernel_rfl) (z7 (zc (g_ref42_Next_ret e13) (z8 (z2 zt)))) ?_
  obtain ⟨r_14, e15, h⟩ := bd_inv h
  rcases Bool.eq_false_or_eq_true (r_14) with b16 | b16
  replace h := ite_t b16 h
  refine T_reg (hl 8 [(2, (zd (B (r_14)))), (7, (zd (B true)))]) [6] [] (mk 39 [(6, (db (r_10.2 == r_12.2)))] []) _ (by kernel_rfl) (z5 (zc (g_ref42_SameInts_ret e15) (z2 (zc (gd_tt b16) (z1 (zc (gd_tt b16) (z1 (zc (gd_tt b16) (z2 (zc b16 (z2 zt))))))))))) ?_
  refine T_ret ?_
  obtain rfl := some_inv h
  exact ret_here [(db (r_10.2 == r_12.2))] (by kernel_rfl) (.inl rfl)
  replace h := ite_f b16 h
  refine T_reg [zn, zn, (zd (B (r_14))), zn, zg, zg, zg, (zd (B false))] [6] [] (mk 39 [(6, (db false))] []) _ (by kernel_rfl) (z5 (zc (g_ref42_SameInts_ret e15) (z2 (zc (gd_ft b16) (zc (gd_ft b16) (zc (gd_ft b16) (z1 (zc b16 (z2 zt))))))))) ?_
  refine T_ret ?_
  obtain rfl := some_inv h
  exact ret_here [(db false)] (by kernel_rfl) (.inl rfl)

end Go.Proofs.YtoiiblkncbnlaaaGreat

/-
  Chapter 42: which clubs rise and fall. Conditions: those of each theorem.
-/
set_option linter.unusedVariables false
set_option linter.unusedSimpArgs false
namespace Go.Proofs.YtoiiblkncbnlaaaGreat
open Go.DL
def clubsL (l : List Place) : List Int := srtI (l.map clubOf)
def insAllI (l : List Int) : List Int := l.foldl (fun o n => insI n o) []
theorem insAllI_snoc (l : List Int) (n : Int) : insAllI (l ++ [n]) = insI n (insAllI l) := by simp [insAllI]
theorem insI_perm (n : Int) (l : List Int) : (insI n l).Perm (n :: l) := by
  induction l with
  | nil => exact List.Perm.refl _
  | cons x l ih =>
    rw [insI]; split
    · exact (ih.cons x).trans (List.Perm.swap n x l)
    · exact List.Perm.refl _
theorem insI_sorted {n : Int} {l : List Int} (h : l.Pairwise (· ≤ ·)) : (insI n l).Pairwise (· ≤ ·) := by
  induction l with
  | nil => simp [insI]
  | cons x l ih =>
    have h1 := List.pairwise_cons.1 h
    rw [insI]; split
    · rename_i hlt
      refine List.pairwise_cons.2 ⟨fun y hy => ?_, ih h1.2⟩
      rcases List.mem_cons.1 ((insI_perm n l).mem_iff.1 hy) with rfl | hy
      · omega
      · exact h1.1 y hy
    · rename_i hlt
      refine List.pairwise_cons.2 ⟨fun y hy => ?_, h⟩
      rcases List.mem_cons.1 hy with rfl | hy
      · omega
      · have := h1.1 y hy; omega
theorem foldl_ins (l : List Int) : ∀ o : List Int, o.Pairwise (· ≤ ·) → (l.foldl (fun o n => insI n o) o).Perm (o ++ l) ∧ (l.foldl (fun o n => insI n o) o).Pairwise (· ≤ ·) := by
  induction l with
  | nil => intro o h; exact ⟨by simp, h⟩
  | cons x l ih =>
    intro o h
    obtain ⟨h1, h2⟩ := ih (insI x o) (insI_sorted h)
    refine ⟨h1.trans ?_, h2⟩
    exact ((insI_perm x o).append_right l).trans (List.perm_middle.symm)
theorem insAllI_eq (l : List Int) : insAllI l = srtI l := by
  obtain ⟨h1, h2⟩ := foldl_ins l [] List.Pairwise.nil
  have h3 : (srtI l).Pairwise (· ≤ ·) := (List.pairwise_mergeSort (le := fun x y => decide (x ≤ y)) (fun a b c h1 h2 => by simp at *; omega) (fun a b => by simp; omega) l).imp fun h => by simpa using h
  exact ((h1.trans (by simp)).trans (srtI_perm l).symm).eq_of_pairwise (fun a b _ _ h1 h2 => by omega) h2 h3
theorem insAllI_length (l : List Int) : (insAllI l).length = l.length := by rw [insAllI_eq, srtI_length]
def movE (t : Tab) (s : Sch) : Int := if fitS t s ≠ 0 then fitS t s else if s.u + s.d > (t.l.length : Int) then 420 else 0
def upM (t : Tab) (s : Sch) : List Int := if movE t s ≠ 0 then [] else clubsL (t.l.take s.u.toNat)
def downM (t : Tab) (s : Sch) : List Int := if movE t s ≠ 0 then [] else clubsL (t.l.drop (t.l.length - s.d.toNat))
theorem movE_bad {t : Tab} {s : Sch} (h : fitS t s ≠ 0) : movE t s = fitS t s := by rw [movE, if_pos h]
theorem movE_420 {t : Tab} {s : Sch} (h : fitS t s = 0) (h2 : s.u + s.d > (t.l.length : Int)) : movE t s = 420 := by rw [movE, if_neg (by omega), if_pos h2]
theorem movE_ok {t : Tab} {s : Sch} (h : fitS t s = 0) (h2 : ¬ s.u + s.d > (t.l.length : Int)) : movE t s = 0 := by rw [movE, if_neg (by omega), if_neg h2]
theorem upM_nil {t : Tab} {s : Sch} (h : movE t s ≠ 0) : upM t s = [] := by rw [upM, if_pos h]
theorem downM_nil {t : Tab} {s : Sch} (h : movE t s ≠ 0) : downM t s = [] := by rw [downM, if_pos h]
theorem upM_ok {t : Tab} {s : Sch} (h : movE t s = 0) : upM t s = clubsL (t.l.take s.u.toNat) := by rw [upM, if_neg (by omega)]
theorem downM_ok {t : Tab} {s : Sch} (h : movE t s = 0) : downM t s = clubsL (t.l.drop (t.l.length - s.d.toNat)) := by rw [downM, if_neg (by omega)]
theorem fit_ranges {t : Tab} {s : Sch} (h : fitS t s = 0) : 0 ≤ s.u ∧ s.u ≤ 24 ∧ 0 ≤ s.d ∧ s.d ≤ 24 ∧ 2 ≤ t.l.length ∧ t.l.length ≤ 24 := by
  obtain ⟨h1, h2, _⟩ := fitS_ok h
  rcases chkT_cases t with h3 | ⟨_, h3, _⟩
  · omega
  · rcases chkS_cases s with h4 | ⟨_, h4, _⟩
    · omega
    · unfold headT at h3; unfold headS at h4; omega
theorem up_yes {l : List Place} {k u : Nat} {o : List Int} {x : Place} (h : o = insAllI ((l.take (min k u)).map clubOf)) (hx : l[k]? = some x) (hk : k < u) : insI x.r.c o = insAllI ((l.take (min (k + 1) u)).map clubOf) := by
  rw [Nat.min_eq_left (by omega)] at h ⊢
  rw [take_snoc hx, List.map_append, h]
  exact (insAllI_snoc _ _).symm
theorem up_no {l : List Place} {k u : Nat} {o : List Int} (h : o = insAllI ((l.take (min k u)).map clubOf)) (hk : u ≤ k) : o = insAllI ((l.take (min (k + 1) u)).map clubOf) := by
  rw [Nat.min_eq_right (by omega)] at h ⊢; exact h
theorem dn_yes {l : List Place} {k m : Nat} {o : List Int} {x : Place} (h : o = insAllI (((l.take k).drop m).map clubOf)) (hx : l[k]? = some x) (hk : m ≤ k) : insI x.r.c o = insAllI (((l.take (k + 1)).drop m).map clubOf) := by
  have hlt := (List.getElem?_eq_some_iff.1 hx).1
  rw [take_snoc hx, List.drop_append_of_le_length (by simp; omega), List.map_append, h]
  exact (insAllI_snoc _ _).symm
theorem dn_no {l : List Place} {k m : Nat} {o : List Int} (h : o = insAllI (((l.take k).drop m).map clubOf)) (hk : k < m) : o = insAllI (((l.take (k + 1)).drop m).map clubOf) := by
  rw [List.drop_eq_nil_of_le (by simp; omega)] at h ⊢; exact h
end Go.Proofs.YtoiiblkncbnlaaaGreat

/-
  Chapter 42: what the partial functions of the program compute: the checks. Conditions: those of each theorem.
-/
set_option linter.unusedVariables false
set_option linter.unusedSimpArgs false
namespace Go.DL
theorem loopO_ind {σ ρ : Type} {step : σ → Option (σ ⊕ ρ)} {r : ρ} (I : σ → Prop) (μ : σ → Nat) (h : ∀ x, I x → step x = some (.inr r) ∨ ∃ y, step x = some (.inl y) ∧ I y ∧ μ y < μ x) : ∀ x, I x → loopO step x = some r := by
  have key : ∀ n x, μ x = n → I x → loopO step x = some r := by
    intro n
    induction n using Nat.strongRecOn with
    | _ n ih =>
      intro x hn hx
      rcases h x hx with h1 | ⟨y, h1, h2, h3⟩
      · exact loopO_inr h1
      · rw [loopO_inl h1]
        exact ih (μ y) (by omega) y rfl h2
  exact fun x hx => key _ x rfl hx
end Go.DL
namespace Go.Proofs.YtoiiblkncbnlaaaGreat
open Go.DL
theorem within_eq (n a b : Int) : g_table_within n a b = some (decide (a ≤ n ∧ n ≤ b)) := by
  simp only [g_table_within]
  by_cases h1 : a ≤ n <;> by_cases h2 : n ≤ b <;> simp [h1, h2]
theorem within2_eq (n a b : Int) : g_prizes_Check_1 n a b = some (decide (a ≤ n ∧ n ≤ b)) := by
  simp only [g_prizes_Check_1]
  by_cases h1 : a ≤ n <;> by_cases h2 : n ≤ b <;> simp [h1, h2]
theorem checkRow_eq (r : Row) : g_table_checkRow r = some (rowOK r) := by
  unfold g_table_checkRow
  refine loopO_ind (fun k => k ≤ 9 ∧ ((nums r).drop k).all inR = (nums r).all inR) (fun k => 9 - k) ?_ 0 ⟨by omega, rfl⟩
  rintro k ⟨hk, iv⟩
  have h9 : (nums r).length = 9 := rfl
  by_cases hlt : k < 9
  · obtain ⟨x, hx⟩ : ∃ x, (nums r)[k]? = some x := ⟨_, List.getElem?_eq_getElem (by omega)⟩
    have hx' : ([r.pl, r.wo, r.dr, r.lo, r.fo, r.ag, r.af, r.aw, r.ca] : List Int)[k]? = some x := hx
    simp only [g_table_checkRow_l2, gn_some hx', within_eq, bd_some]
    by_cases hb : 0 ≤ x ∧ x ≤ 9999
    · right
      refine ⟨k + 1, ?_, ⟨by omega, all_step iv hx hb⟩, by omega⟩
      rw [ckI_pos (by omega) (by omega)]
      simp [hb]; omega
    · left
      have h1 : rowOK r = false := rowOK_no (all_stop iv hx (by omega))
      simp [hb, h1]; omega
  · left
    have he := all_end iv (by omega)
    have h1 : ¬ (k < 9) := by omega
    rw [rowOK_of he]
    by_cases hc : 0 ≤ r.c ∧ r.c ≤ 191 <;> by_cases hp : -99999 ≤ r.po ∧ r.po ≤ 99999 <;> simp [g_table_checkRow_l2, g_table_checkRow_j1, within_eq, h1, hc, hp] <;> omega
theorem row_step {t : Tab} {k : Nat} {m : List Int} {e x : Place} (hl : t.l.length ≤ 1000) (hx : t.l[k]? = some x) (he : 0 < k → t.l[k - 1]? = some e) (im : Seen m t.l k) (iml : m.length ≤ k) (hc : rowOK x.r = true → 0 ≤ x.r.c ∧ x.r.c ≤ 191) :
    g_table_Check_l3 t (k, m) = if placeOK k e ((t.l.take k).map clubOf) x then some (.inl (k + 1, sput m x.r.c)) else some (.inr 1) := by
  have hlt := (List.getElem?_eq_some_iff.1 hx).1
  have hs := im x.r.c
  have hmem : ∀ b, smem m x.r.c = b → (x.r.c ∉ (t.l.take k).map clubOf ↔ b = false) := fun b hb => by
    rw [hs] at hb; rw [← hb]; simp
  have hmx : m.length < maxLen := by simp only [maxLen]; omega
  have h6 : ∀ b, rowOK x.r = true → g_table_Check_j6 x m k t b = if b = true then some (.inr 1) else some (.inl (k + 1, sput m x.r.c)) := fun b hr => by
    have := hc hr
    cases b
    · simp only [g_table_Check_j6]; rw [ckI_pos (by omega) (by omega), ck_pos hmx, ckI_pos (by omega) (by omega)]; simp
    · simp [g_table_Check_j6]
  have h6t : g_table_Check_j6 x m k t true = some (.inr 1) := by simp [g_table_Check_j6]
  have h5 : ∀ b, g_table_Check_j5 x m k t b = if b = true ∧ x.z.length ≤ 24 ∧ rowOK x.r = true ∧ smem m x.r.c = false then some (.inl (k + 1, sput m x.r.c)) else some (.inr 1) := fun b => by
    simp only [g_table_Check_j5, checkRow_eq, bd_some, h6t]
    cases b
    · simp
    · by_cases hz : x.z.length ≤ 24
      · cases hr : rowOK x.r
        · simp
        · have := hc hr
          simp only [h6 _ hr]
          rw [ckI_pos (by omega) (by omega)]
          cases smem m x.r.c <;> simp [hz] <;> omega
      · simp [hz]; omega
  have e1 : -9223372036854775808 ≤ ((k : Nat) : Int) + 1 ∧ ((k : Nat) : Int) + 1 ≤ 9223372036854775807 := by omega
  have hsm := hmem _ rfl
  obtain ⟨R, hR⟩ : ∃ R, R = if placeOK k e ((t.l.take k).map clubOf) x then (some (.inl (k + 1, sput m x.r.c)) : Option ((Nat × List Int) ⊕ Int)) else some (.inr 1) := ⟨_, rfl⟩
  rw [← hR]
  have hend : ∀ b : Bool, (b = true ↔ shapeOK k e x) → g_table_Check_j5 x m k t b = R := fun b hb => by
    rw [h5, hR]
    by_cases hp : placeOK k e ((t.l.take k).map clubOf) x
    · rw [if_pos hp, if_pos ⟨hb.2 hp.1, hp.2.1, hp.2.2.1, hsm.1 hp.2.2.2⟩]
    · rw [if_neg hp, if_neg fun h => hp ⟨hb.1 h.1, h.2.1, h.2.2.1, hsm.2 h.2.2.2⟩]
  rcases Nat.eq_zero_or_pos k with h0 | h0
  · subst h0
    have j7 : ∀ b, g_table_Check_j4 0 t x m b = g_table_Check_j5 x m 0 t b := fun b => by simp [g_table_Check_j4, g_table_Check_j7]
    simp only [g_table_Check_l3, gn_some hx, within_eq, bd_some, j7]
    rw [ckI_pos e1.1 e1.2, if_pos (by simp; omega)]
    simp
    repeat' split
    all_goals (refine hend _ ?_; unfold shapeOK; simp_all; try omega)
  · have hg : t.l[(((k : Nat) : Int) - 1).toNat]? = some e := by rw [show (((k : Nat) : Int) - 1).toNat = k - 1 from by omega]; exact he h0
    have hk0 : ¬ k = 0 := by omega
    have j4 : ∀ b, g_table_Check_j4 k t x m b = if x.k = e.k then (if x.b = 0 then g_table_Check_j5 x m k t (decide (x.r.c > e.r.c)) else g_table_Check_j5 x m k t false) else g_table_Check_j5 x m k t b := fun b => by
      simp only [g_table_Check_j4, g_table_Check_j7]
      rw [if_pos (by simp; omega), ckI_pos (by omega) (by omega), gt_some hg (by omega), ckI_pos (by omega) (by omega), gt_some hg (by omega)]
      simp
    simp only [g_table_Check_l3, gn_some hx, within_eq, bd_some, j4]
    rw [ckI_pos e1.1 e1.2, if_pos (by simp; omega)]
    simp [h0, hk0]
    repeat' split
    all_goals (refine hend _ ?_; unfold shapeOK; simp_all; try omega)
theorem rowOK_c {r : Row} (h : rowOK r = true) : 0 ≤ r.c ∧ r.c ≤ 191 := by
  unfold rowOK at h
  rw [Bool.and_eq_true] at h
  have := of_decide_eq_true h.2
  omega
theorem tloop_eq {t : Tab} (hl : t.l.length ≤ 1000) (hh : headT t) : loopO (g_table_Check_l3 t) (0, []) = some (chkT t) := by
  refine loopO_ind (fun v => ∃ e, v.1 ≤ t.l.length ∧ plOK v.1 e ((t.l.take v.1).map clubOf) (t.l.drop v.1) = plOK 0 noPlace [] t.l ∧ (0 < v.1 → t.l[v.1 - 1]? = some e) ∧ Seen v.2 t.l v.1 ∧ v.2.length ≤ v.1) (fun v => t.l.length - v.1) ?_ (0, []) ⟨noPlace, by simp, rfl, by simp, seen_zero _, by simp⟩
  rintro ⟨k, m⟩ ⟨e, hk, iv, he, im, iml⟩
  dsimp only at hk iv he im iml
  by_cases hlt : k < t.l.length
  · obtain ⟨x, hx⟩ : ∃ x, t.l[k]? = some x := ⟨_, List.getElem?_eq_getElem hlt⟩
    rw [row_step hl hx he im iml rowOK_c]
    by_cases hp : placeOK k e ((t.l.take k).map clubOf) x
    · right
      rw [if_pos hp]
      refine ⟨_, rfl, ⟨x, hlt, plOK_step iv hx hp, fun _ => by simpa using hx, seen_step im hx, ?_⟩, by dsimp only; omega⟩
      have := sput_le x.r.c m
      dsimp only; omega
    · left
      rw [if_neg hp, ← chkT_bad2 (plOK_stop iv hx hp)]
  · left
    have h1 : ¬ (k < t.l.length) := hlt
    have h2 := chkT_ok hh (plOK_end iv (by omega))
    simp [g_table_Check_l3, g_table_Check_j2, h1, ← h2]
theorem tcheck_eq {t : Tab} (hl : t.l.length ≤ 1000) : g_table_Check t = some (chkT t) := by
  simp only [g_table_Check, within_eq, bd_some]
  have j1 : g_table_Check_j1 t true = some 1 := by simp [g_table_Check_j1]
  by_cases h : headT t
  · obtain ⟨h1, h2, h3, h4, h5, h6⟩ := h
    have j2 : g_table_Check_j1 t false = some (chkT t) := by simp only [g_table_Check_j1]; exact tloop_eq hl ⟨h1, h2, h3, h4, h5, h6⟩
    have g1 : (2 : Int) ≤ (t.l.length : Int) ∧ (t.l.length : Int) ≤ 24 := by omega
    simp [h1, h2, h3, h4, g1, j2]
  · rw [← chkT_bad h]
    unfold headT at h
    by_cases h1 : 0 ≤ t.s ∧ t.s ≤ 63 <;> by_cases h2 : 0 ≤ t.c ∧ t.c ≤ 15
    · have g1 : ¬ ((2 : Int) ≤ (t.l.length : Int) ∧ (t.l.length : Int) ≤ 24) := by omega
      simp only [h1, h2, g1, j1]; simp [j1]
    all_goals simp [h1, h2, j1]
end Go.Proofs.YtoiiblkncbnlaaaGreat

/-
  Chapter 42: what the partial functions compute: schemes, what fits. Conditions: those of each theorem.
-/
set_option linter.unusedVariables false
set_option linter.unusedSimpArgs false
namespace Go.Proofs.YtoiiblkncbnlaaaGreat
open Go.DL
set_option maxHeartbeats 4000000
theorem pj2_eq {s : Sch} {n : Int} (hh : headS s) : g_prizes_Check_j2 s n = some (if n ≤ 1125899906842624 ∧ tailS s then 0 else 420) := by
  unfold headS at hh
  obtain ⟨_, _, _, hu, _, hd, _⟩ := hh
  obtain ⟨R, hR⟩ : ∃ R : Int, R = if n ≤ 1125899906842624 ∧ tailS s then 0 else 420 := ⟨_, rfl⟩
  have h0 : n ≤ 1125899906842624 ∧ tailS s → some (0 : Int) = some R := fun h => by rw [hR, if_pos h]
  have h1 : ¬ (n ≤ 1125899906842624 ∧ tailS s) → some (420 : Int) = some R := fun h => by rw [hR, if_neg h]
  rw [← hR]
  clear hR
  unfold tailS at h0 h1
  simp only [g_prizes_Check_j2, g_prizes_Check_j4, g_prizes_Check_j5, g_prizes_Check_j3, within2_eq, bd_some, decide_eq_true_eq, Bool.not_eq_true', decide_eq_false_iff_not, beq_iff_eq, bne_iff_ne, bne_eq_false_iff_eq, Bool.false_eq_true, if_true, if_false]
  repeat' split
  all_goals first | (refine h1 ?_; omega) | (refine h0 ?_; omega)
theorem rj2_eq {s : Sch} {n : Int} (hh : headS s) : g_ref42_Check_j2 s n = some (if n ≤ 1125899906842624 ∧ tailS s then 0 else 420) := by
  unfold headS at hh
  obtain ⟨_, _, _, hu, _, hd, _⟩ := hh
  obtain ⟨R, hR⟩ : ∃ R : Int, R = if n ≤ 1125899906842624 ∧ tailS s then 0 else 420 := ⟨_, rfl⟩
  have h0 : n ≤ 1125899906842624 ∧ tailS s → some (0 : Int) = some R := fun h => by rw [hR, if_pos h]
  have h1 : ¬ (n ≤ 1125899906842624 ∧ tailS s) → some (420 : Int) = some R := fun h => by rw [hR, if_neg h]
  rw [← hR]
  clear hR
  unfold tailS at h0 h1
  have j3t : g_ref42_Check_j3 s true = some 420 := by simp [g_ref42_Check_j3]
  have j4 : ∀ b, g_ref42_Check_j4 b = if b = true then some 420 else some 0 := fun b => rfl
  simp only [g_ref42_Check_j2, j3t]
  simp only [g_ref42_Check_j3, j4, decide_eq_true_eq, Bool.not_eq_true', decide_eq_false_iff_not, beq_iff_eq, bne_iff_ne, bne_eq_false_iff_eq, Bool.false_eq_true, if_true, if_false]
  by_cases a0 : n > 1125899906842624
  · rw [if_pos a0]; exact h1 (by omega)
  rw [if_neg a0]
  by_cases a1 : s.ab < -1
  · rw [if_pos a1]; exact h1 (by omega)
  rw [if_neg a1]
  by_cases a2 : s.ab ≥ 8
  · rw [if_pos a2]; exact h1 (by omega)
  rw [if_neg a2]
  by_cases a3 : s.be < -1
  · rw [if_pos a3]; exact h1 (by omega)
  rw [if_neg a3]
  by_cases a4 : s.be ≥ 8
  · rw [if_pos a4]; exact h1 (by omega)
  rw [if_neg a4]
  by_cases a5 : s.ab = s.c
  · rw [if_pos a5]; exact h1 (by omega)
  rw [if_neg a5]
  by_cases a6 : s.be = s.c
  · rw [if_pos a6]; exact h1 (by omega)
  rw [if_neg a6]
  repeat' split
  all_goals first | (refine h1 ?_; omega) | (refine h0 ?_; omega)
theorem ploop_eq {s : Sch} (hh : headS s) : loopO (g_prizes_Check_l6 s) (0, 0, 0) = some (chkS s) := by
  have hlen := hh.2.2.1
  refine loopO_ind (fun v => v.2.2 ≤ s.p.length ∧ prOK v.2.1 (s.p.drop v.2.2) = prOK 0 s.p ∧ sumL v.1 ((s.p.drop v.2.2).map (·.a)) = sumA s.p ∧ 0 ≤ v.1 ∧ v.1 ≤ 1125899906842624 * (v.2.2 : Int)) (fun v => s.p.length - v.2.2) ?_ (0, 0, 0) ⟨by simp, rfl, rfl, by simp, by simp⟩
  rintro ⟨n, la, k⟩ ⟨hk, iv, is, hn0, hn1⟩
  dsimp only at hk iv is hn0 hn1
  by_cases hlt : k < s.p.length
  · obtain ⟨x, hx⟩ : ∃ x, s.p[k]? = some x := ⟨_, List.getElem?_eq_getElem hlt⟩
    have j7t : g_prizes_Check_j7 n x k s true = some (.inr 420) := by simp [g_prizes_Check_j7]
    have j7f : g_prizes_Check_j7 n x k s (!decide (1 ≤ x.a ∧ x.a ≤ 1125899906842624)) = if 1 ≤ x.a ∧ x.a ≤ 1125899906842624 then some (.inl (n + x.a, x.t, k + 1)) else some (.inr 420) := by
      by_cases ha : 1 ≤ x.a ∧ x.a ≤ 1125899906842624
      · rw [if_pos ha, decide_eq_true ha]
        simp only [g_prizes_Check_j7]
        rw [ckI_pos (by omega) (by omega), ckI_pos (by omega) (by omega)]; simp
      · rw [if_neg ha, decide_eq_false ha]; exact j7t
    have hstep : g_prizes_Check_l6 s (n, la, k) = if x.f ≤ la ∨ x.t < x.f ∨ x.t > 24 ∨ x.a < 1 ∨ x.a > 1125899906842624 then some (.inr 420) else some (.inl (n + x.a, x.t, k + 1)) := by
      simp only [g_prizes_Check_l6, gn_some hx, within2_eq, bd_some, j7t, j7f]
      rw [if_pos (by simp; omega)]
      by_cases h1 : x.f ≤ la
      · simp [h1]
      · by_cases h2 : x.t < x.f
        · simp [h1, h2]
        · by_cases h3 : x.t > 24
          · simp [h1, h2, h3]
          · by_cases h4 : 1 ≤ x.a ∧ x.a ≤ 1125899906842624
            · have h5 : ¬ (x.f ≤ la ∨ x.t < x.f ∨ x.t > 24 ∨ x.a < 1 ∨ x.a > 1125899906842624) := by omega
              rw [if_pos h4, if_neg h5]; simp [h1, h2, h3]
            · have h5 : x.f ≤ la ∨ x.t < x.f ∨ x.t > 24 ∨ x.a < 1 ∨ x.a > 1125899906842624 := by omega
              rw [if_neg h4, if_pos h5]; simp [h1, h2, h3]
    rw [hstep]
    by_cases hb : x.f ≤ la ∨ x.t < x.f ∨ x.t > 24 ∨ x.a < 1 ∨ x.a > 1125899906842624
    · left; rw [if_pos hb, ← chkS_bad2 (prOK_stop iv hx hb)]
    · right
      rw [if_neg hb]
      exact ⟨_, rfl, ⟨hlt, prOK_step iv hx hb, sumA_step is hx, by dsimp only; omega, by dsimp only; omega⟩, by dsimp only; omega⟩
  · left
    have hs := sumA_end is (by omega)
    have hp := prOK_end iv (by omega)
    have h1 : g_prizes_Check_l6 s (n, la, k) = up (g_prizes_Check_j2 s n) := by simp [g_prizes_Check_l6, hlt]
    rw [h1, pj2_eq hh, up_some]
    congr 2
    rw [chkS]
    by_cases ht : n ≤ 1125899906842624 ∧ tailS s
    · rw [if_pos ht, if_pos ⟨hh, ht.2, hp, by omega⟩]
    · rw [if_neg ht, if_neg]; rintro ⟨_, h2, _, h3⟩; exact ht ⟨by omega, h2⟩
theorem pcheck_eq {s : Sch} (hl : s.p.length ≤ 1000) : g_prizes_Check s = some (chkS s) := by
  simp only [g_prizes_Check, within2_eq, bd_some]
  have j1t : g_prizes_Check_j1 s true = some 420 := by simp [g_prizes_Check_j1]
  by_cases hh : headS s
  · have j1f : g_prizes_Check_j1 s false = some (chkS s) := by simp only [g_prizes_Check_j1]; exact ploop_eq hh
    obtain ⟨h1, h2, h3, h4, h5, h6, h7⟩ := hh
    have g1 : ¬ ((s.p.length : Int) > 24) := by omega
    simp [h1, h2, h4, h5, h6, h7, g1, j1f]
  · rw [← chkS_bad (fun h => hh h.1)]
    unfold headS at hh
    by_cases h1 : 0 ≤ s.c ∧ s.c ≤ 7
    · by_cases h2 : 0 ≤ s.u ∧ s.u ≤ 24
      · by_cases h3 : 0 ≤ s.d ∧ s.d ≤ 24
        · have g1 : (s.p.length : Int) > 24 := by omega
          simp only [h1, h2, h3, g1, j1t]; simp [j1t]
        · simp [h1, h2, h3, j1t]
      · simp [h1, h2, j1t]
    · simp [h1, j1t]
end Go.Proofs.YtoiiblkncbnlaaaGreat

/-
  The data-level framework, third series, part e: partial functions have values with a property: one rule for each shape of step, and a tactic that applies them. Generic; no condition.
-/
set_option linter.unusedVariables false
set_option linter.unusedSimpArgs false
namespace Go.DL
def WP {α : Type} (o : Option α) (Q : α → Prop) : Prop := ∃ x, o = some x ∧ Q x
section
variable {α β ρ σ : Type} {Q : ρ → Prop}
theorem WP.eq {o : Option ρ} {r : ρ} (h : WP o fun x => x = r) : o = some r := by obtain ⟨x, h1, rfl⟩ := h; exact h1
theorem WP.of {o : Option ρ} {r : ρ} (h : o = some r) (hq : Q r) : WP o Q := ⟨r, h, hq⟩
theorem WP.mono {o : Option ρ} {Q' : ρ → Prop} (h : WP o Q') (hq : ∀ x, Q' x → Q x) : WP o Q := by obtain ⟨x, h1, h2⟩ := h; exact ⟨x, h1, hq x h2⟩
theorem WP.ret {x : ρ} (h : Q x) : WP (some x) Q := ⟨x, rfl, h⟩
theorem WP.iteD {p : Prop} [d : Decidable p] [i : Decidable (decide p = true)] {a b : Option ρ} (h1 : p → WP a Q) (h2 : ¬ p → WP b Q) : WP (@ite _ (decide p = true) i a b) Q := by
  by_cases h : p
  · rw [if_pos (decide_eq_true h)]; exact h1 h
  · rw [if_neg (by simp [h])]; exact h2 h
theorem WP.iteE [DecidableEq α] {x y : α} [i : Decidable ((x == y) = true)] {a b : Option ρ} (h1 : x = y → WP a Q) (h2 : ¬ x = y → WP b Q) : WP (@ite _ ((x == y) = true) i a b) Q := by
  by_cases h : x = y
  · rw [if_pos (beq_iff_eq.2 h)]; exact h1 h
  · rw [if_neg (by simp [h])]; exact h2 h
theorem WP.iteN [DecidableEq α] {x y : α} [i : Decidable ((x != y) = true)] {a b : Option ρ} (h1 : ¬ x = y → WP a Q) (h2 : x = y → WP b Q) : WP (@ite _ ((x != y) = true) i a b) Q := by
  by_cases h : x = y
  · rw [if_neg (by simp [h])]; exact h2 h
  · rw [if_pos (bne_iff_ne.2 h)]; exact h1 h
theorem WP.iteT [i : Decidable (true = true)] {a b : Option ρ} (h : WP a Q) : WP (@ite _ (true = true) i a b) Q := by rw [if_pos rfl]; exact h
theorem WP.iteF [i : Decidable (false = true)] {a b : Option ρ} (h : WP b Q) : WP (@ite _ (false = true) i a b) Q := by rw [if_neg (by simp)]; exact h
theorem WP.iteNb {c : Bool} [i : Decidable ((!c) = true)] {a b : Option ρ} (h : WP (if c = true then b else a) Q) : WP (@ite _ ((!c) = true) i a b) Q := by
  cases c
  · rw [if_pos (show (!false) = true from rfl)]; rwa [if_neg (by simp)] at h
  · rw [if_neg (show ¬ (!true) = true by simp)]; rwa [if_pos rfl] at h
theorem WP.iteB {c : Bool} [i : Decidable (c = true)] {a b : Option ρ} (h1 : c = true → WP a Q) (h2 : c = false → WP b Q) : WP (@ite _ (c = true) i a b) Q := by
  cases c
  · rw [if_neg (by simp)]; exact h2 rfl
  · rw [if_pos rfl]; exact h1 rfl
theorem WP.ckI {n : Int} {o : Option ρ} (hn : -9223372036854775808 ≤ n ∧ n ≤ 9223372036854775807) (h : WP o Q) : WP (Go.DL.ckI n o) Q := by rw [ckI_pos hn.1 hn.2]; exact h
theorem WP.ck {p : Prop} [Decidable p] {o : Option ρ} (hp : p) (h : WP o Q) : WP (Go.DL.ck p o) Q := by rw [ck_pos hp]; exact h
theorem WP.gn {l : List α} {n : Nat} {k : α → Option ρ} (hn : n < l.length) (h : ∀ x, l[n]? = some x → WP (k x) Q) : WP (Go.DL.gn l n k) Q := by
  have hx : l[n]? = some l[n] := List.getElem?_eq_getElem hn
  rw [gn_some hx]; exact h _ hx
theorem WP.gt {l : List α} {i : Int} {k : α → Option ρ} (hn : 0 ≤ i ∧ i < (l.length : Int)) (h : ∀ x, l[i.toNat]? = some x → WP (k x) Q) : WP (Go.DL.gt l i k) Q := by
  have hx : l[i.toNat]? = some (l[i.toNat]'(by omega)) := List.getElem?_eq_getElem (by omega)
  rw [gt_some hx hn.1]; exact h _ hx
theorem WP.bd {o : Option α} {k : α → Option ρ} {r : α} (ho : o = some r) (h : WP (k r) Q) : WP (Go.DL.bd o k) Q := by rw [ho]; exact h
theorem WP.bdW {o : Option α} {k : α → Option ρ} (h : WP o fun x => WP (k x) Q) : WP (Go.DL.bd o k) Q := by obtain ⟨x, h1, h2⟩ := h; rw [h1]; exact h2
theorem WP.up {o : Option ρ} {Q : σ ⊕ ρ → Prop} (h : WP o fun r => Q (.inr r)) : WP (Go.DL.up o) Q := by obtain ⟨x, h1, h2⟩ := h; exact ⟨.inr x, by rw [h1]; rfl, h2⟩
theorem WP.letO {x : α} {k : α → Option ρ} (h : WP (k x) Q) : WP (Go.DL.letO x k) Q := h
theorem WP.sb {l : List α} {lo hi : Option Int} {k : List α → Option ρ} (h0 : 0 ≤ lo.getD 0 ∧ lo.getD 0 ≤ hi.getD l.length ∧ hi.getD l.length ≤ (l.length : Int)) (h : WP (k (subList l lo hi)) Q) : WP (Go.DL.sb l lo hi k) Q := by
  unfold Go.DL.sb; rw [if_pos h0]; exact h
theorem WP.sbp {n : Nat} {lo hi : Option Int} {k : Nat → Nat → Option ρ} (h0 : 0 ≤ lo.getD 0 ∧ lo.getD 0 ≤ hi.getD n ∧ hi.getD n ≤ (n : Int)) (h : WP (k (lo.getD 0).toNat ((hi.getD n).toNat - (lo.getD 0).toNat)) Q) : WP (Go.DL.sbp n lo hi k) Q := by
  unfold Go.DL.sbp; rw [if_pos h0]; exact h
/-- What one round of a loop leaves: another round's state, which is nearer the end, or the result. -/
def Rnd (I : σ → Prop) (μ : σ → Nat) (n : Nat) (Q : ρ → Prop) : σ ⊕ ρ → Prop
  | .inl y => I y ∧ μ y < n
  | .inr r => Q r
theorem WP.loop {step : σ → Option (σ ⊕ ρ)} {x : σ} (I : σ → Prop) (μ : σ → Nat) (h : ∀ x, I x → WP (step x) (Rnd I μ (μ x) Q)) (h0 : I x) : WP (loopO step x) Q := by
  have key : ∀ n x, μ x = n → I x → WP (loopO step x) Q := by
    intro n
    induction n using Nat.strongRecOn with
    | _ n ih =>
      intro x hn hx
      obtain ⟨z, h1, h2⟩ := h x hx
      match z, h1, h2 with
      | .inr r, h1, h2 => exact ⟨r, loopO_inr h1, h2⟩
      | .inl y, h1, h2 => rw [loopO_inl h1]; have := h2.2; exact ih (μ y) (by omega) y rfl h2.1
  exact key _ x rfl h0
end
end Go.DL

/-
  Chapter 42: what the reference's checks compute. Conditions: those of each theorem.
-/
set_option linter.unusedVariables false
set_option linter.unusedSimpArgs false
namespace Go.Proofs.YtoiiblkncbnlaaaGreat
open Go.DL
set_option maxHeartbeats 4000000
theorem rloop_eq {s : Sch} (hh : headS s) : loopO (g_ref42_Check_l5 s) (0, 0) = some (chkS s) := by
  have hlen := hh.2.2.1
  refine WP.eq (WP.loop (fun v => ∃ la, v.2 ≤ s.p.length ∧ prOK la (s.p.drop v.2) = prOK 0 s.p ∧ sumL v.1 ((s.p.drop v.2).map (·.a)) = sumA s.p ∧ 0 ≤ v.1 ∧ v.1 ≤ 1125899906842624 * (v.2 : Int) ∧ 0 ≤ la ∧ (v.2 = 0 → la = 0) ∧ (0 < v.2 → ∃ e, s.p[v.2 - 1]? = some e ∧ e.t = la)) (fun v => s.p.length - v.2) ?_ ⟨0, by simp, rfl, rfl, by simp, by simp, by simp, by simp, by simp⟩)
  rintro ⟨n, k⟩ ⟨la, hk, iv, is, hn0, hn1, hla, hl0, hl1⟩
  dsimp only at hk iv is hn0 hn1 hl0 hl1 ⊢
  simp only [g_ref42_Check_l5]
  refine WP.iteD (fun hlt => ?_) (fun hlt => ?_)
  · obtain ⟨x, hx⟩ : ∃ x, s.p[k]? = some x := ⟨_, List.getElem?_eq_getElem (by omega)⟩
    rw [gn_some hx]
    have j6 : ∀ b, (b = true ↔ x.f ≤ la ∨ x.t < x.f ∨ x.t > 24 ∨ x.a < 1 ∨ x.a > 1125899906842624) → WP (g_ref42_Check_j6 n x k s b) (Rnd (fun v : Int × Nat => ∃ la, v.2 ≤ s.p.length ∧ prOK la (s.p.drop v.2) = prOK 0 s.p ∧ sumL v.1 ((s.p.drop v.2).map (·.a)) = sumA s.p ∧ 0 ≤ v.1 ∧ v.1 ≤ 1125899906842624 * (v.2 : Int) ∧ 0 ≤ la ∧ (v.2 = 0 → la = 0) ∧ (0 < v.2 → ∃ e, s.p[v.2 - 1]? = some e ∧ e.t = la)) (fun v => s.p.length - v.2) (s.p.length - k) fun z => z = chkS s) := fun b hb => by
      cases b
      · have hnb : ¬ (x.f ≤ la ∨ x.t < x.f ∨ x.t > 24 ∨ x.a < 1 ∨ x.a > 1125899906842624) := fun h => by cases hb.2 h
        unfold g_ref42_Check_j6
        (repeat' (first | with_reducible (first | refine WP.iteT ?_ | refine WP.iteF ?_ | refine WP.iteNb ?_ | refine WP.iteD (fun _ => ?_) (fun _ => ?_) | refine WP.iteE (fun _ => ?_) (fun _ => ?_) | refine WP.iteN (fun _ => ?_) (fun _ => ?_) | refine WP.iteB (fun _ => ?_) (fun _ => ?_)) | (with_reducible refine WP.ckI ?_ ?_; · omega) | (with_reducible refine WP.gn ?_ (fun _ _ => ?_); · omega) | (with_reducible refine WP.gt ?_ (fun _ _ => ?_); · omega) | with_reducible (first | refine WP.up ?_ | refine WP.letO ?_ | refine WP.ret ?_)))
        exact ⟨⟨x.t, by dsimp only; omega, prOK_step iv hx hnb, sumA_step is hx, by dsimp only; omega, by dsimp only; omega, by omega, by simp, fun _ => ⟨x, by simpa using hx, rfl⟩⟩, by dsimp only; omega⟩
      · unfold g_ref42_Check_j6
        (repeat' (first | with_reducible (first | refine WP.iteT ?_ | refine WP.iteF ?_ | refine WP.iteNb ?_ | refine WP.iteD (fun _ => ?_) (fun _ => ?_) | refine WP.iteE (fun _ => ?_) (fun _ => ?_) | refine WP.iteN (fun _ => ?_) (fun _ => ?_) | refine WP.iteB (fun _ => ?_) (fun _ => ?_)) | (with_reducible refine WP.ckI ?_ ?_; · omega) | (with_reducible refine WP.gn ?_ (fun _ _ => ?_); · omega) | (with_reducible refine WP.gt ?_ (fun _ _ => ?_); · omega) | with_reducible (first | refine WP.up ?_ | refine WP.letO ?_ | refine WP.ret ?_)))
        exact chkS_bad2 (prOK_stop iv hx (hb.1 rfl))
    (repeat' (first | with_reducible (first | refine WP.iteT ?_ | refine WP.iteF ?_ | refine WP.iteNb ?_ | refine WP.iteD (fun _ => ?_) (fun _ => ?_) | refine WP.iteE (fun _ => ?_) (fun _ => ?_) | refine WP.iteN (fun _ => ?_) (fun _ => ?_) | refine WP.iteB (fun _ => ?_) (fun _ => ?_)) | (with_reducible refine WP.ckI ?_ ?_; · omega) | (with_reducible refine WP.gn ?_ (fun _ _ => ?_); · omega) | (with_reducible refine WP.gt ?_ (fun _ _ => ?_); · omega) | with_reducible (first | refine WP.up ?_ | refine WP.letO ?_ | refine WP.ret ?_)))
    all_goals refine j6 _ ?_
    all_goals try simp only [decide_eq_true_eq, true_iff, Bool.false_eq_true, false_iff]
    all_goals try omega
    · rename_i _ e he
      obtain ⟨e', he', rfl⟩ := hl1 (by omega)
      rw [show (((k : Nat) : Int) - 1).toNat = k - 1 by omega, he'] at he
      cases he
      omega
  · (repeat' (first | with_reducible (first | refine WP.iteT ?_ | refine WP.iteF ?_ | refine WP.iteNb ?_ | refine WP.iteD (fun _ => ?_) (fun _ => ?_) | refine WP.iteE (fun _ => ?_) (fun _ => ?_) | refine WP.iteN (fun _ => ?_) (fun _ => ?_) | refine WP.iteB (fun _ => ?_) (fun _ => ?_)) | (with_reducible refine WP.ckI ?_ ?_; · omega) | (with_reducible refine WP.gn ?_ (fun _ _ => ?_); · omega) | (with_reducible refine WP.gt ?_ (fun _ _ => ?_); · omega) | with_reducible (first | refine WP.up ?_ | refine WP.letO ?_ | refine WP.ret ?_)))
    · have hs := sumA_end is (by omega)
      have hp := prOK_end iv (by omega)
      refine WP.of (rj2_eq hh) ?_
      show _ = chkS s
      rw [chkS]
      by_cases ht : n ≤ 1125899906842624 ∧ tailS s
      · rw [if_pos ht, if_pos ⟨hh, ht.2, hp, by omega⟩]
      · rw [if_neg ht, if_neg]; rintro ⟨_, h2, _, h3⟩; exact ht ⟨by omega, h2⟩
theorem rcheck_eq (s : Sch) : g_ref42_Check s = some (chkS s) := by
  refine WP.eq ?_
  have j1 : ∀ b, (b = true ↔ ¬ headS s) → WP (g_ref42_Check_j1 s b) (fun x => x = chkS s) := fun b hb => by
    cases b
    · unfold g_ref42_Check_j1
      (first | with_reducible (first | refine WP.iteT ?_ | refine WP.iteF ?_ | refine WP.iteNb ?_ | refine WP.iteD (fun _ => ?_) (fun _ => ?_) | refine WP.iteE (fun _ => ?_) (fun _ => ?_) | refine WP.iteN (fun _ => ?_) (fun _ => ?_) | refine WP.iteB (fun _ => ?_) (fun _ => ?_)) | (with_reducible refine WP.ckI ?_ ?_; · omega) | (with_reducible refine WP.gn ?_ (fun _ _ => ?_); · omega) | (with_reducible refine WP.gt ?_ (fun _ _ => ?_); · omega) | with_reducible (first | refine WP.up ?_ | refine WP.letO ?_ | refine WP.ret ?_))
      have hh : headS s := by by_cases h : headS s; exact h; simp [h] at hb
      exact WP.of (rloop_eq hh) rfl
    · unfold g_ref42_Check_j1
      (repeat' (first | with_reducible (first | refine WP.iteT ?_ | refine WP.iteF ?_ | refine WP.iteNb ?_ | refine WP.iteD (fun _ => ?_) (fun _ => ?_) | refine WP.iteE (fun _ => ?_) (fun _ => ?_) | refine WP.iteN (fun _ => ?_) (fun _ => ?_) | refine WP.iteB (fun _ => ?_) (fun _ => ?_)) | (with_reducible refine WP.ckI ?_ ?_; · omega) | (with_reducible refine WP.gn ?_ (fun _ _ => ?_); · omega) | (with_reducible refine WP.gt ?_ (fun _ _ => ?_); · omega) | with_reducible (first | refine WP.up ?_ | refine WP.letO ?_ | refine WP.ret ?_)))
      exact chkS_bad fun h => hb.1 rfl h.1
  unfold g_ref42_Check
  (repeat' (first | with_reducible (first | refine WP.iteT ?_ | refine WP.iteF ?_ | refine WP.iteNb ?_ | refine WP.iteD (fun _ => ?_) (fun _ => ?_) | refine WP.iteE (fun _ => ?_) (fun _ => ?_) | refine WP.iteN (fun _ => ?_) (fun _ => ?_) | refine WP.iteB (fun _ => ?_) (fun _ => ?_)) | (with_reducible refine WP.ckI ?_ ?_; · omega) | (with_reducible refine WP.gn ?_ (fun _ _ => ?_); · omega) | (with_reducible refine WP.gt ?_ (fun _ _ => ?_); · omega) | with_reducible (first | refine WP.up ?_ | refine WP.letO ?_ | refine WP.ret ?_)))
  all_goals refine j1 _ ?_
  all_goals unfold headS
  all_goals try simp only [decide_eq_true_eq, true_iff]
  all_goals omega
end Go.Proofs.YtoiiblkncbnlaaaGreat

/-
  Chapter 42: what the reference's check of a table computes; what fits. Conditions: those of each theorem.
-/
set_option linter.unusedVariables false
set_option linter.unusedSimpArgs false
namespace Go.Proofs.YtoiiblkncbnlaaaGreat
open Go.DL
set_option maxHeartbeats 4000000
section
variable {t : Tab} {i : Nat} {x e : Place} {K : Nat ⊕ Int → Prop}
theorem r20_j9 (hi : i ≤ t.l.length) (hl : t.l.length ≤ 1000) (h1 : x.r.c ∉ (t.l.take i).map clubOf → K (.inl (i + 1))) (h2 : x.r.c ∈ (t.l.take i).map clubOf → K (.inr 1)) : WP (g_ref20_Check_j9 i t x) K := by
  unfold g_ref20_Check_j9
  refine WP.loop (fun k => k ≤ i ∧ x.r.c ∉ (t.l.take k).map clubOf) (fun k => i - k) ?_ ⟨by omega, by simp⟩
  rintro k ⟨hk, hn⟩
  simp only [g_ref20_Check_l10]
  refine WP.iteD (fun hlt => ?_) (fun hlt => ?_)
  · obtain ⟨y, hy⟩ : ∃ y, t.l[k]? = some y := ⟨_, List.getElem?_eq_getElem (by omega)⟩
    rw [gn_some hy]
    (repeat' (first | with_reducible (first | refine WP.iteT ?_ | refine WP.iteF ?_ | refine WP.iteNb ?_ | refine WP.iteD (fun _ => ?_) (fun _ => ?_) | refine WP.iteE (fun _ => ?_) (fun _ => ?_) | refine WP.iteN (fun _ => ?_) (fun _ => ?_) | refine WP.iteB (fun _ => ?_) (fun _ => ?_)) | (with_reducible refine WP.ckI ?_ ?_; · omega) | (with_reducible refine WP.gn ?_ (fun _ _ => ?_); · omega) | (with_reducible refine WP.gt ?_ (fun _ _ => ?_); · omega) | with_reducible (first | refine WP.up ?_ | refine WP.letO ?_ | refine WP.ret ?_)))
    · rename_i he
      exact h2 (List.mem_map.2 ⟨y, List.mem_of_getElem? (i := k) (by rw [List.getElem?_take, if_pos (by omega)]; exact hy), he⟩)
    · rename_i he
      refine ⟨⟨by omega, ?_⟩, by dsimp only; omega⟩
      rw [take_snoc hy, List.map_append, List.mem_append]
      rintro (h3 | h3)
      · exact hn h3
      · simp only [List.map_cons, List.map_nil, List.mem_singleton, clubOf] at h3
        exact he h3.symm
  · have : k = i := by omega
    subst this
    unfold g_ref20_Check_j4
    (repeat' (first | with_reducible (first | refine WP.iteT ?_ | refine WP.iteF ?_ | refine WP.iteNb ?_ | refine WP.iteD (fun _ => ?_) (fun _ => ?_) | refine WP.iteE (fun _ => ?_) (fun _ => ?_) | refine WP.iteN (fun _ => ?_) (fun _ => ?_) | refine WP.iteB (fun _ => ?_) (fun _ => ?_)) | (with_reducible refine WP.ckI ?_ ?_; · omega) | (with_reducible refine WP.gn ?_ (fun _ _ => ?_); · omega) | (with_reducible refine WP.gt ?_ (fun _ _ => ?_); · omega) | with_reducible (first | refine WP.up ?_ | refine WP.letO ?_ | refine WP.ret ?_)))
    exact h1 hn
theorem r20_nums (hi : i ≤ t.l.length) (hl : t.l.length ≤ 1000) (h1 : (nums x.r).all inR = true → x.r.c ∉ (t.l.take i).map clubOf → K (.inl (i + 1))) (h2 : (nums x.r).all inR = false ∨ x.r.c ∈ (t.l.take i).map clubOf → K (.inr 1)) : WP (loopO (g_ref20_Check_l11 (nums x.r) i t x) 0) K := by
  refine WP.loop (fun k => k ≤ 9 ∧ ((nums x.r).drop k).all inR = (nums x.r).all inR) (fun k => 9 - k) ?_ ⟨by omega, rfl⟩
  rintro k ⟨hk, iv⟩
  have h9 : (nums x.r).length = 9 := rfl
  simp only [g_ref20_Check_l11]
  refine WP.iteD (fun hlt => ?_) (fun hlt => ?_)
  · obtain ⟨y, hy⟩ : ∃ y, (nums x.r)[k]? = some y := ⟨_, List.getElem?_eq_getElem (by omega)⟩
    rw [gn_some hy]
    have j12 : ∀ b, (b = true ↔ y < 0 ∨ y > 9999) → WP (g_ref20_Check_j12 k i (nums x.r) t x b) (Rnd (fun k => k ≤ 9 ∧ ((nums x.r).drop k).all inR = (nums x.r).all inR) (fun k => 9 - k) (9 - k) K) := fun b hb => by
      unfold g_ref20_Check_j12
      cases b
      · have hnb : ¬ (y < 0 ∨ y > 9999) := fun h => by cases hb.2 h
        (repeat' (first | with_reducible (first | refine WP.iteT ?_ | refine WP.iteF ?_ | refine WP.iteNb ?_ | refine WP.iteD (fun _ => ?_) (fun _ => ?_) | refine WP.iteE (fun _ => ?_) (fun _ => ?_) | refine WP.iteN (fun _ => ?_) (fun _ => ?_) | refine WP.iteB (fun _ => ?_) (fun _ => ?_)) | (with_reducible refine WP.ckI ?_ ?_; · omega) | (with_reducible refine WP.gn ?_ (fun _ _ => ?_); · omega) | (with_reducible refine WP.gt ?_ (fun _ _ => ?_); · omega) | with_reducible (first | refine WP.up ?_ | refine WP.letO ?_ | refine WP.ret ?_)))
        exact ⟨⟨by omega, all_step iv hy (by omega)⟩, by dsimp only; omega⟩
      · have := hb.1 rfl
        (repeat' (first | with_reducible (first | refine WP.iteT ?_ | refine WP.iteF ?_ | refine WP.iteNb ?_ | refine WP.iteD (fun _ => ?_) (fun _ => ?_) | refine WP.iteE (fun _ => ?_) (fun _ => ?_) | refine WP.iteN (fun _ => ?_) (fun _ => ?_) | refine WP.iteB (fun _ => ?_) (fun _ => ?_)) | (with_reducible refine WP.ckI ?_ ?_; · omega) | (with_reducible refine WP.gn ?_ (fun _ _ => ?_); · omega) | (with_reducible refine WP.gt ?_ (fun _ _ => ?_); · omega) | with_reducible (first | refine WP.up ?_ | refine WP.letO ?_ | refine WP.ret ?_)))
        exact h2 (.inl (all_stop iv hy (by omega)))
    (repeat' (first | with_reducible (first | refine WP.iteT ?_ | refine WP.iteF ?_ | refine WP.iteNb ?_ | refine WP.iteD (fun _ => ?_) (fun _ => ?_) | refine WP.iteE (fun _ => ?_) (fun _ => ?_) | refine WP.iteN (fun _ => ?_) (fun _ => ?_) | refine WP.iteB (fun _ => ?_) (fun _ => ?_)) | (with_reducible refine WP.ckI ?_ ?_; · omega) | (with_reducible refine WP.gn ?_ (fun _ _ => ?_); · omega) | (with_reducible refine WP.gt ?_ (fun _ _ => ?_); · omega) | with_reducible (first | refine WP.up ?_ | refine WP.letO ?_ | refine WP.ret ?_)))
    all_goals refine j12 _ ?_
    all_goals try simp only [decide_eq_true_eq, true_iff]
    all_goals omega
  · have he := all_end iv (by omega)
    (repeat' (first | with_reducible (first | refine WP.iteT ?_ | refine WP.iteF ?_ | refine WP.iteNb ?_ | refine WP.iteD (fun _ => ?_) (fun _ => ?_) | refine WP.iteE (fun _ => ?_) (fun _ => ?_) | refine WP.iteN (fun _ => ?_) (fun _ => ?_) | refine WP.iteB (fun _ => ?_) (fun _ => ?_)) | (with_reducible refine WP.ckI ?_ ?_; · omega) | (with_reducible refine WP.gn ?_ (fun _ _ => ?_); · omega) | (with_reducible refine WP.gt ?_ (fun _ _ => ?_); · omega) | with_reducible (first | refine WP.up ?_ | refine WP.letO ?_ | refine WP.ret ?_)))
    exact r20_j9 hi hl (h1 he) fun h => h2 (.inr h)
theorem r20_j8 (hi : i ≤ t.l.length) (hl : t.l.length ≤ 1000) {b : Bool} (hb : b = true ↔ ¬ (x.z.length ≤ 24 ∧ 0 ≤ x.r.c ∧ x.r.c ≤ 191 ∧ -99999 ≤ x.r.po ∧ x.r.po ≤ 99999)) (h1 : x.z.length ≤ 24 → rowOK x.r = true → x.r.c ∉ (t.l.take i).map clubOf → K (.inl (i + 1)))
    (h2 : ¬ (x.z.length ≤ 24 ∧ rowOK x.r = true ∧ x.r.c ∉ (t.l.take i).map clubOf) → K (.inr 1)) : WP (g_ref20_Check_j8 x i t b) K := by
  unfold g_ref20_Check_j8
  cases b
  · have hh : x.z.length ≤ 24 ∧ 0 ≤ x.r.c ∧ x.r.c ≤ 191 ∧ -99999 ≤ x.r.po ∧ x.r.po ≤ 99999 := by
      by_cases h : x.z.length ≤ 24 ∧ 0 ≤ x.r.c ∧ x.r.c ≤ 191 ∧ -99999 ≤ x.r.po ∧ x.r.po ≤ 99999
      · exact h
      · cases hb.2 h
    have hr : rowOK x.r = (nums x.r).all inR := by
      unfold rowOK
      rw [decide_eq_true hh.2, Bool.and_true]
    (first | with_reducible (first | refine WP.iteT ?_ | refine WP.iteF ?_ | refine WP.iteNb ?_ | refine WP.iteD (fun _ => ?_) (fun _ => ?_) | refine WP.iteE (fun _ => ?_) (fun _ => ?_) | refine WP.iteN (fun _ => ?_) (fun _ => ?_) | refine WP.iteB (fun _ => ?_) (fun _ => ?_)) | (with_reducible refine WP.ckI ?_ ?_; · omega) | (with_reducible refine WP.gn ?_ (fun _ _ => ?_); · omega) | (with_reducible refine WP.gt ?_ (fun _ _ => ?_); · omega) | with_reducible (first | refine WP.up ?_ | refine WP.letO ?_ | refine WP.ret ?_))
    refine WP.bd (r := nums x.r) rfl ?_
    refine r20_nums hi hl (fun h3 h4 => h1 hh.1 (by rw [hr]; exact h3) h4) fun h3 => h2 fun h4 => ?_
    rcases h3 with h3 | h3
    · rw [← hr, h4.2.1] at h3; cases h3
    · exact h4.2.2 h3
  · have := hb.1 rfl
    (repeat' (first | with_reducible (first | refine WP.iteT ?_ | refine WP.iteF ?_ | refine WP.iteNb ?_ | refine WP.iteD (fun _ => ?_) (fun _ => ?_) | refine WP.iteE (fun _ => ?_) (fun _ => ?_) | refine WP.iteN (fun _ => ?_) (fun _ => ?_) | refine WP.iteB (fun _ => ?_) (fun _ => ?_)) | (with_reducible refine WP.ckI ?_ ?_; · omega) | (with_reducible refine WP.gn ?_ (fun _ _ => ?_); · omega) | (with_reducible refine WP.gt ?_ (fun _ _ => ?_); · omega) | with_reducible (first | refine WP.up ?_ | refine WP.letO ?_ | refine WP.ret ?_)))
    refine h2 fun h => this ⟨h.1, ?_⟩
    have h3 := h.2.1
    unfold rowOK at h3
    rw [Bool.and_eq_true] at h3
    exact of_decide_eq_true h3.2
theorem r20_j7 (hi : i ≤ t.l.length) (hl : t.l.length ≤ 1000) {b : Bool} (hb : b = true ↔ ¬ shapeOK i e x) (h1 : placeOK i e ((t.l.take i).map clubOf) x → K (.inl (i + 1)))
    (h2 : ¬ placeOK i e ((t.l.take i).map clubOf) x → K (.inr 1)) : WP (g_ref20_Check_j7 x i t b) K := by
  unfold g_ref20_Check_j7
  cases b
  · have hs : shapeOK i e x := by
      by_cases h : shapeOK i e x
      · exact h
      · cases hb.2 h
    (first | with_reducible (first | refine WP.iteT ?_ | refine WP.iteF ?_ | refine WP.iteNb ?_ | refine WP.iteD (fun _ => ?_) (fun _ => ?_) | refine WP.iteE (fun _ => ?_) (fun _ => ?_) | refine WP.iteN (fun _ => ?_) (fun _ => ?_) | refine WP.iteB (fun _ => ?_) (fun _ => ?_)) | (with_reducible refine WP.ckI ?_ ?_; · omega) | (with_reducible refine WP.gn ?_ (fun _ _ => ?_); · omega) | (with_reducible refine WP.gt ?_ (fun _ _ => ?_); · omega) | with_reducible (first | refine WP.up ?_ | refine WP.letO ?_ | refine WP.ret ?_))
    (repeat' (first | with_reducible (first | refine WP.iteT ?_ | refine WP.iteF ?_ | refine WP.iteNb ?_ | refine WP.iteD (fun _ => ?_) (fun _ => ?_) | refine WP.iteE (fun _ => ?_) (fun _ => ?_) | refine WP.iteN (fun _ => ?_) (fun _ => ?_) | refine WP.iteB (fun _ => ?_) (fun _ => ?_)) | (with_reducible refine WP.ckI ?_ ?_; · omega) | (with_reducible refine WP.gn ?_ (fun _ _ => ?_); · omega) | (with_reducible refine WP.gt ?_ (fun _ _ => ?_); · omega) | with_reducible (first | refine WP.up ?_ | refine WP.letO ?_ | refine WP.ret ?_)))
    all_goals refine r20_j8 hi hl ?_ (fun h3 h4 h5 => h1 ⟨hs, h3, h4, h5⟩) fun h3 => h2 fun h4 => h3 h4.2
    all_goals try simp only [decide_eq_true_eq, true_iff]
    all_goals omega
  · have := hb.1 rfl
    (repeat' (first | with_reducible (first | refine WP.iteT ?_ | refine WP.iteF ?_ | refine WP.iteNb ?_ | refine WP.iteD (fun _ => ?_) (fun _ => ?_) | refine WP.iteE (fun _ => ?_) (fun _ => ?_) | refine WP.iteN (fun _ => ?_) (fun _ => ?_) | refine WP.iteB (fun _ => ?_) (fun _ => ?_)) | (with_reducible refine WP.ckI ?_ ?_; · omega) | (with_reducible refine WP.gn ?_ (fun _ _ => ?_); · omega) | (with_reducible refine WP.gt ?_ (fun _ _ => ?_); · omega) | with_reducible (first | refine WP.up ?_ | refine WP.letO ?_ | refine WP.ret ?_)))
    exact h2 fun h => this h.1
theorem r20_round (hl : t.l.length ≤ 1000) (hx : t.l[i]? = some x) (he : 0 < i → t.l[i - 1]? = some e) (h1 : placeOK i e ((t.l.take i).map clubOf) x → K (.inl (i + 1)))
    (h2 : ¬ placeOK i e ((t.l.take i).map clubOf) x → K (.inr 1)) : WP (g_ref20_Check_l3 t i) K := by
  have hlt := (List.getElem?_eq_some_iff.1 hx).1
  have j7 : ∀ b, (b = true ↔ ¬ shapeOK i e x) → WP (g_ref20_Check_j7 x i t b) K := fun b hb => r20_j7 (by omega) hl hb h1 h2
  have bad : ¬ shapeOK i e x → K (.inr 1) := fun h => h2 fun h3 => h h3.1
  have j6t : ∀ y, ¬ shapeOK i e x → WP (g_ref20_Check_j6 y x i t true) K := fun y h => by
    unfold g_ref20_Check_j6
    (repeat' (first | with_reducible (first | refine WP.iteT ?_ | refine WP.iteF ?_ | refine WP.iteNb ?_ | refine WP.iteD (fun _ => ?_) (fun _ => ?_) | refine WP.iteE (fun _ => ?_) (fun _ => ?_) | refine WP.iteN (fun _ => ?_) (fun _ => ?_) | refine WP.iteB (fun _ => ?_) (fun _ => ?_)) | (with_reducible refine WP.ckI ?_ ?_; · omega) | (with_reducible refine WP.gn ?_ (fun _ _ => ?_); · omega) | (with_reducible refine WP.gt ?_ (fun _ _ => ?_); · omega) | with_reducible (first | refine WP.up ?_ | refine WP.letO ?_ | refine WP.ret ?_)))
    exact bad h
  have j6f : ∀ y, (y = true ↔ 0 < i ∧ x.k = e.k) → (y = true → e.r.c < x.r.c) → (y = false → x.k = (i : Int) + 1) → WP (g_ref20_Check_j6 y x i t false) K := fun y hy h3 h4 => by
    unfold g_ref20_Check_j6
    (first | with_reducible (first | refine WP.iteT ?_ | refine WP.iteF ?_ | refine WP.iteNb ?_ | refine WP.iteD (fun _ => ?_) (fun _ => ?_) | refine WP.iteE (fun _ => ?_) (fun _ => ?_) | refine WP.iteN (fun _ => ?_) (fun _ => ?_) | refine WP.iteB (fun _ => ?_) (fun _ => ?_)) | (with_reducible refine WP.ckI ?_ ?_; · omega) | (with_reducible refine WP.gn ?_ (fun _ _ => ?_); · omega) | (with_reducible refine WP.gt ?_ (fun _ _ => ?_); · omega) | with_reducible (first | refine WP.up ?_ | refine WP.letO ?_ | refine WP.ret ?_))
    cases y
    · have h5 := h4 rfl
      have h6 : ¬ (0 < i ∧ x.k = e.k) := fun h => by cases hy.2 h
      (repeat' (first | with_reducible (first | refine WP.iteT ?_ | refine WP.iteF ?_ | refine WP.iteNb ?_ | refine WP.iteD (fun _ => ?_) (fun _ => ?_) | refine WP.iteE (fun _ => ?_) (fun _ => ?_) | refine WP.iteN (fun _ => ?_) (fun _ => ?_) | refine WP.iteB (fun _ => ?_) (fun _ => ?_)) | (with_reducible refine WP.ckI ?_ ?_; · omega) | (with_reducible refine WP.gn ?_ (fun _ _ => ?_); · omega) | (with_reducible refine WP.gt ?_ (fun _ _ => ?_); · omega) | with_reducible (first | refine WP.up ?_ | refine WP.letO ?_ | refine WP.ret ?_)))
      all_goals refine j7 _ ?_
      all_goals unfold shapeOK
      all_goals try simp only [decide_eq_true_eq, true_iff, Bool.false_eq_true, false_iff]
      all_goals omega
    · have h5 := h3 rfl
      have h6 := hy.1 rfl
      (repeat' (first | with_reducible (first | refine WP.iteT ?_ | refine WP.iteF ?_ | refine WP.iteNb ?_ | refine WP.iteD (fun _ => ?_) (fun _ => ?_) | refine WP.iteE (fun _ => ?_) (fun _ => ?_) | refine WP.iteN (fun _ => ?_) (fun _ => ?_) | refine WP.iteB (fun _ => ?_) (fun _ => ?_)) | (with_reducible refine WP.ckI ?_ ?_; · omega) | (with_reducible refine WP.gn ?_ (fun _ _ => ?_); · omega) | (with_reducible refine WP.gt ?_ (fun _ _ => ?_); · omega) | with_reducible (first | refine WP.up ?_ | refine WP.letO ?_ | refine WP.ret ?_)))
      all_goals refine j7 _ ?_
      all_goals unfold shapeOK
      all_goals try simp only [decide_eq_true_eq, true_iff, Bool.false_eq_true, false_iff]
      all_goals omega
  have j5 : ∀ y, (y = true ↔ 0 < i ∧ x.k = e.k) → WP (g_ref20_Check_j5 i x t y) K := fun y hy => by
    unfold g_ref20_Check_j5
    cases y
    · have h6 : ¬ (0 < i ∧ x.k = e.k) := fun h => by cases hy.2 h
      (repeat' (first | with_reducible (first | refine WP.iteT ?_ | refine WP.iteF ?_ | refine WP.iteNb ?_ | refine WP.iteD (fun _ => ?_) (fun _ => ?_) | refine WP.iteE (fun _ => ?_) (fun _ => ?_) | refine WP.iteN (fun _ => ?_) (fun _ => ?_) | refine WP.iteB (fun _ => ?_) (fun _ => ?_)) | (with_reducible refine WP.ckI ?_ ?_; · omega) | (with_reducible refine WP.gn ?_ (fun _ _ => ?_); · omega) | (with_reducible refine WP.gt ?_ (fun _ _ => ?_); · omega) | with_reducible (first | refine WP.up ?_ | refine WP.letO ?_ | refine WP.ret ?_)))
      · refine j6t _ ?_
        unfold shapeOK; omega
      · refine j6f _ hy (fun h => by cases h) fun _ => ?_
        omega
    · have h6 := hy.1 rfl
      have h7 := he h6.1
      (first | with_reducible (first | refine WP.iteT ?_ | refine WP.iteF ?_ | refine WP.iteNb ?_ | refine WP.iteD (fun _ => ?_) (fun _ => ?_) | refine WP.iteE (fun _ => ?_) (fun _ => ?_) | refine WP.iteN (fun _ => ?_) (fun _ => ?_) | refine WP.iteB (fun _ => ?_) (fun _ => ?_)) | (with_reducible refine WP.ckI ?_ ?_; · omega) | (with_reducible refine WP.gn ?_ (fun _ _ => ?_); · omega) | (with_reducible refine WP.gt ?_ (fun _ _ => ?_); · omega) | with_reducible (first | refine WP.up ?_ | refine WP.letO ?_ | refine WP.ret ?_)); (first | with_reducible (first | refine WP.iteT ?_ | refine WP.iteF ?_ | refine WP.iteNb ?_ | refine WP.iteD (fun _ => ?_) (fun _ => ?_) | refine WP.iteE (fun _ => ?_) (fun _ => ?_) | refine WP.iteN (fun _ => ?_) (fun _ => ?_) | refine WP.iteB (fun _ => ?_) (fun _ => ?_)) | (with_reducible refine WP.ckI ?_ ?_; · omega) | (with_reducible refine WP.gn ?_ (fun _ _ => ?_); · omega) | (with_reducible refine WP.gt ?_ (fun _ _ => ?_); · omega) | with_reducible (first | refine WP.up ?_ | refine WP.letO ?_ | refine WP.ret ?_)); (first | with_reducible (first | refine WP.iteT ?_ | refine WP.iteF ?_ | refine WP.iteNb ?_ | refine WP.iteD (fun _ => ?_) (fun _ => ?_) | refine WP.iteE (fun _ => ?_) (fun _ => ?_) | refine WP.iteN (fun _ => ?_) (fun _ => ?_) | refine WP.iteB (fun _ => ?_) (fun _ => ?_)) | (with_reducible refine WP.ckI ?_ ?_; · omega) | (with_reducible refine WP.gn ?_ (fun _ _ => ?_); · omega) | (with_reducible refine WP.gt ?_ (fun _ _ => ?_); · omega) | with_reducible (first | refine WP.up ?_ | refine WP.letO ?_ | refine WP.ret ?_))
      rw [gt_some (x := e) (by rw [show (((i : Nat) : Int) - 1).toNat = i - 1 by omega]; exact h7) (by omega)]
      by_cases hc : x.r.c ≤ e.r.c
      · rw [decide_eq_true hc]
        refine j6t _ ?_
        unfold shapeOK; omega
      · rw [decide_eq_false hc]
        exact j6f _ hy (fun _ => by omega) fun h => by cases h
  simp only [g_ref20_Check_l3]
  refine WP.iteD (fun _ => ?_) (fun h => absurd h (by omega))
  rw [gn_some hx]
  refine WP.iteD (fun h => ?_) (fun h => ?_)
  · (first | with_reducible (first | refine WP.iteT ?_ | refine WP.iteF ?_ | refine WP.iteNb ?_ | refine WP.iteD (fun _ => ?_) (fun _ => ?_) | refine WP.iteE (fun _ => ?_) (fun _ => ?_) | refine WP.iteN (fun _ => ?_) (fun _ => ?_) | refine WP.iteB (fun _ => ?_) (fun _ => ?_)) | (with_reducible refine WP.ckI ?_ ?_; · omega) | (with_reducible refine WP.gn ?_ (fun _ _ => ?_); · omega) | (with_reducible refine WP.gt ?_ (fun _ _ => ?_); · omega) | with_reducible (first | refine WP.up ?_ | refine WP.letO ?_ | refine WP.ret ?_))
    rw [gt_some (x := e) (by rw [show (((i : Nat) : Int) - 1).toNat = i - 1 by omega]; exact he (by omega)) (by omega)]
    refine j5 _ ?_
    rw [beq_iff_eq]
    omega
  · refine j5 _ ?_
    simp only [Bool.false_eq_true, false_iff]
    omega
end
theorem r20_eq {t : Tab} (hl : t.l.length ≤ 1000) : g_ref20_Check t = some (chkT t) := by
  refine WP.eq ?_
  have j1 : ∀ b, (b = true ↔ ¬ headT t) → WP (g_ref20_Check_j1 t b) (fun x => x = chkT t) := fun b hb => by
    cases b
    · unfold g_ref20_Check_j1
      (first | with_reducible (first | refine WP.iteT ?_ | refine WP.iteF ?_ | refine WP.iteNb ?_ | refine WP.iteD (fun _ => ?_) (fun _ => ?_) | refine WP.iteE (fun _ => ?_) (fun _ => ?_) | refine WP.iteN (fun _ => ?_) (fun _ => ?_) | refine WP.iteB (fun _ => ?_) (fun _ => ?_)) | (with_reducible refine WP.ckI ?_ ?_; · omega) | (with_reducible refine WP.gn ?_ (fun _ _ => ?_); · omega) | (with_reducible refine WP.gt ?_ (fun _ _ => ?_); · omega) | with_reducible (first | refine WP.up ?_ | refine WP.letO ?_ | refine WP.ret ?_))
      have hh : headT t := by by_cases h : headT t; exact h; cases hb.2 h
      refine WP.loop (fun k => ∃ e, k ≤ t.l.length ∧ plOK k e ((t.l.take k).map clubOf) (t.l.drop k) = plOK 0 noPlace [] t.l ∧ (0 < k → t.l[k - 1]? = some e)) (fun k => t.l.length - k) ?_ ⟨noPlace, by simp, rfl, by simp⟩
      rintro k ⟨e, hk, iv, he⟩
      by_cases hlt : k < t.l.length
      · obtain ⟨x, hx⟩ : ∃ x, t.l[k]? = some x := ⟨_, List.getElem?_eq_getElem hlt⟩
        refine r20_round hl hx he (fun hp => ?_) (fun hp => ?_)
        · exact ⟨⟨x, hlt, plOK_step iv hx hp, fun _ => by simpa using hx⟩, by dsimp only; omega⟩
        · exact chkT_bad2 (plOK_stop iv hx hp)
      · simp only [g_ref20_Check_l3]
        refine WP.iteD (fun h => absurd h (by omega)) (fun h => ?_)
        unfold g_ref20_Check_j2
        (repeat' (first | with_reducible (first | refine WP.iteT ?_ | refine WP.iteF ?_ | refine WP.iteNb ?_ | refine WP.iteD (fun _ => ?_) (fun _ => ?_) | refine WP.iteE (fun _ => ?_) (fun _ => ?_) | refine WP.iteN (fun _ => ?_) (fun _ => ?_) | refine WP.iteB (fun _ => ?_) (fun _ => ?_)) | (with_reducible refine WP.ckI ?_ ?_; · omega) | (with_reducible refine WP.gn ?_ (fun _ _ => ?_); · omega) | (with_reducible refine WP.gt ?_ (fun _ _ => ?_); · omega) | with_reducible (first | refine WP.up ?_ | refine WP.letO ?_ | refine WP.ret ?_)))
        exact chkT_ok hh (plOK_end iv (by omega))
    · unfold g_ref20_Check_j1
      (repeat' (first | with_reducible (first | refine WP.iteT ?_ | refine WP.iteF ?_ | refine WP.iteNb ?_ | refine WP.iteD (fun _ => ?_) (fun _ => ?_) | refine WP.iteE (fun _ => ?_) (fun _ => ?_) | refine WP.iteN (fun _ => ?_) (fun _ => ?_) | refine WP.iteB (fun _ => ?_) (fun _ => ?_)) | (with_reducible refine WP.ckI ?_ ?_; · omega) | (with_reducible refine WP.gn ?_ (fun _ _ => ?_); · omega) | (with_reducible refine WP.gt ?_ (fun _ _ => ?_); · omega) | with_reducible (first | refine WP.up ?_ | refine WP.letO ?_ | refine WP.ret ?_)))
      exact chkT_bad (hb.1 rfl)
  unfold g_ref20_Check
  (repeat' (first | with_reducible (first | refine WP.iteT ?_ | refine WP.iteF ?_ | refine WP.iteNb ?_ | refine WP.iteD (fun _ => ?_) (fun _ => ?_) | refine WP.iteE (fun _ => ?_) (fun _ => ?_) | refine WP.iteN (fun _ => ?_) (fun _ => ?_) | refine WP.iteB (fun _ => ?_) (fun _ => ?_)) | (with_reducible refine WP.ckI ?_ ?_; · omega) | (with_reducible refine WP.gn ?_ (fun _ _ => ?_); · omega) | (with_reducible refine WP.gt ?_ (fun _ _ => ?_); · omega) | with_reducible (first | refine WP.up ?_ | refine WP.letO ?_ | refine WP.ret ?_)))
  all_goals refine j1 _ ?_
  all_goals unfold headT
  all_goals try simp only [decide_eq_true_eq, true_iff]
  all_goals omega
theorem fits_eq {t : Tab} {s : Sch} (hl : t.l.length ≤ 1000) (hs : s.p.length ≤ 1000) : g_prizes_fits t s = some (fitS t s) := by
  refine WP.eq ?_
  unfold g_prizes_fits fitS
  refine WP.bd (tcheck_eq hl) ?_
  (repeat' (first | with_reducible (first | refine WP.iteT ?_ | refine WP.iteF ?_ | refine WP.iteNb ?_ | refine WP.iteD (fun _ => ?_) (fun _ => ?_) | refine WP.iteE (fun _ => ?_) (fun _ => ?_) | refine WP.iteN (fun _ => ?_) (fun _ => ?_) | refine WP.iteB (fun _ => ?_) (fun _ => ?_)) | (with_reducible refine WP.ckI ?_ ?_; · omega) | (with_reducible refine WP.gn ?_ (fun _ _ => ?_); · omega) | (with_reducible refine WP.gt ?_ (fun _ _ => ?_); · omega) | with_reducible (first | refine WP.up ?_ | refine WP.letO ?_ | refine WP.ret ?_)))
  · rw [if_pos ‹_›]
  · rename_i h
    rw [if_neg (show ¬ chkT t ≠ 0 by omega)]
    refine WP.bd (pcheck_eq hs) ?_
    refine WP.iteN (fun h2 => ?_) (fun h2 => ?_)
    · rw [if_pos h2]; exact WP.ret rfl
    · rw [if_neg (show ¬ chkS s ≠ 0 by omega)]
      refine WP.iteN (fun h3 => ?_) (fun h3 => ?_)
      · rw [if_pos h3]; exact WP.ret rfl
      · rw [if_neg (show ¬ t.c ≠ s.c by omega)]; exact WP.ret rfl
theorem checked_eq {t : Tab} {s : Sch} (hl : t.l.length ≤ 1000) : g_ref42_checked t s = some (fitS t s) := by
  refine WP.eq ?_
  unfold g_ref42_checked fitS
  refine WP.bd (r20_eq hl) ?_
  have j3f : ∀ n, WP (g_ref42_checked_j3 n false) (fun x => x = n) := fun n => by
    unfold g_ref42_checked_j3 g_ref42_checked_j2; (repeat' (first | with_reducible (first | refine WP.iteT ?_ | refine WP.iteF ?_ | refine WP.iteNb ?_ | refine WP.iteD (fun _ => ?_) (fun _ => ?_) | refine WP.iteE (fun _ => ?_) (fun _ => ?_) | refine WP.iteN (fun _ => ?_) (fun _ => ?_) | refine WP.iteB (fun _ => ?_) (fun _ => ?_)) | (with_reducible refine WP.ckI ?_ ?_; · omega) | (with_reducible refine WP.gn ?_ (fun _ _ => ?_); · omega) | (with_reducible refine WP.gt ?_ (fun _ _ => ?_); · omega) | with_reducible (first | refine WP.up ?_ | refine WP.letO ?_ | refine WP.ret ?_))); rfl
  have j1 : ∀ n, WP (g_ref42_checked_j1 t s n) (fun x => x = if n ≠ 0 then n else if t.c ≠ s.c then 420 else 0) := fun n => by
    unfold g_ref42_checked_j1
    (repeat' (first | with_reducible (first | refine WP.iteT ?_ | refine WP.iteF ?_ | refine WP.iteNb ?_ | refine WP.iteD (fun _ => ?_) (fun _ => ?_) | refine WP.iteE (fun _ => ?_) (fun _ => ?_) | refine WP.iteN (fun _ => ?_) (fun _ => ?_) | refine WP.iteB (fun _ => ?_) (fun _ => ?_)) | (with_reducible refine WP.ckI ?_ ?_; · omega) | (with_reducible refine WP.gn ?_ (fun _ _ => ?_); · omega) | (with_reducible refine WP.gt ?_ (fun _ _ => ?_); · omega) | with_reducible (first | refine WP.up ?_ | refine WP.letO ?_ | refine WP.ret ?_)))
    · rename_i h
      rw [if_neg (by omega)]
      by_cases hc : t.c = s.c
      · rw [if_neg (by omega), hc, show (s.c != s.c) = false by simp, h]; exact j3f 0
      · rw [if_pos hc, show (t.c != s.c) = true by simpa using hc]
        unfold g_ref42_checked_j3 g_ref42_checked_j2; (repeat' (first | with_reducible (first | refine WP.iteT ?_ | refine WP.iteF ?_ | refine WP.iteNb ?_ | refine WP.iteD (fun _ => ?_) (fun _ => ?_) | refine WP.iteE (fun _ => ?_) (fun _ => ?_) | refine WP.iteN (fun _ => ?_) (fun _ => ?_) | refine WP.iteB (fun _ => ?_) (fun _ => ?_)) | (with_reducible refine WP.ckI ?_ ?_; · omega) | (with_reducible refine WP.gn ?_ (fun _ _ => ?_); · omega) | (with_reducible refine WP.gt ?_ (fun _ _ => ?_); · omega) | with_reducible (first | refine WP.up ?_ | refine WP.letO ?_ | refine WP.ret ?_))); rfl
    · rename_i h
      rw [if_pos h]; exact j3f n
  (repeat' (first | with_reducible (first | refine WP.iteT ?_ | refine WP.iteF ?_ | refine WP.iteNb ?_ | refine WP.iteD (fun _ => ?_) (fun _ => ?_) | refine WP.iteE (fun _ => ?_) (fun _ => ?_) | refine WP.iteN (fun _ => ?_) (fun _ => ?_) | refine WP.iteB (fun _ => ?_) (fun _ => ?_)) | (with_reducible refine WP.ckI ?_ ?_; · omega) | (with_reducible refine WP.gn ?_ (fun _ _ => ?_); · omega) | (with_reducible refine WP.gt ?_ (fun _ _ => ?_); · omega) | with_reducible (first | refine WP.up ?_ | refine WP.letO ?_ | refine WP.ret ?_)))
  · rename_i h
    refine WP.bd (rcheck_eq s) ?_
    rw [if_neg (by omega)]
    exact j1 _
  · rename_i h
    rw [if_pos h]
    refine (j1 _).mono fun x hx => ?_
    rw [hx, if_pos h]
end Go.Proofs.YtoiiblkncbnlaaaGreat

/-
  Chapter 42: the reference's prizes, plainly. Conditions: those of each theorem.
-/
set_option linter.unusedVariables false
set_option linter.unusedSimpArgs false
namespace Go.Proofs.YtoiiblkncbnlaaaGreat
open Go.DL
theorem part_bounds42 {ps : List Prize} {last : Int} (h : prOK last ps = true) (r : Int) : 0 ≤ part ps r ∧ part ps r ≤ 1125899906842624 := by
  induction ps generalizing last with
  | nil => simp [part]
  | cons q l ih =>
    have hm := prOK_mem h q (by simp)
    rw [prOK] at h
    split at h
    · cases h
    · rw [part]; split
      · rename_i hr
        have hlt : (r - q.f).toNat < (q.t - q.f + 1).toNat := by omega
        have hb := eqL_bounds (a := q.a) (n := (q.t - q.f + 1).toNat) (by omega) (List.mem_of_getElem? (eqL_get (by omega) hlt))
        rw [List.getD, eqL_get (by omega) hlt]
        simp only [Option.getD_some]
        omega
      · exact ih h
theorem sumL_snoc (l : List Int) (x : Int) : sumL 0 (l ++ [x]) = sumL 0 l + x := by
  have : ∀ n : Int, sumL n (l ++ [x]) = sumL n l + x := by
    induction l with
    | nil => intro n; rfl
    | cons y l ih => intro n; simp only [List.cons_append, sumL]; exact ih _
  exact this 0
theorem share_yes {ps : List Place} {ns : List Int} {j : Nat} {y : Place} {n : Int} (hp : ps[j]? = some y) (hn : ns[j]? = some n) (h : n > 0) : share (ps.drop j) (ns.drop j) = ⟨y.r.c, n⟩ :: share (ps.drop (j + 1)) (ns.drop (j + 1)) := by
  rw [drop_cons hp, drop_cons hn, share, if_pos h]
theorem share_no {ps : List Place} {ns : List Int} {j : Nat} {y : Place} {n : Int} (hp : ps[j]? = some y) (hn : ns[j]? = some n) (h : ¬ n > 0) : share (ps.drop j) (ns.drop j) = share (ps.drop (j + 1)) (ns.drop (j + 1)) := by
  rw [drop_cons hp, drop_cons hn, share, if_neg h]
abbrev insF (o : List Pay) (l : List Pay) : List Pay := l.foldl (fun o p => insP p o) o
end Go.Proofs.YtoiiblkncbnlaaaGreat
namespace Go.Proofs.YtoiiblkncbnlaaaGreat
open Go.DL
theorem fit_prizes {t : Tab} {s : Sch} (h : fitS t s = 0) : prOK 0 s.p = true ∧ sumA s.p ≤ 1125899906842624 ∧ s.p.length ≤ 24 := by
  obtain ⟨_, h2, _⟩ := fitS_ok h
  rcases chkS_cases s with h4 | ⟨_, h4, _, h5, h6⟩
  · omega
  · unfold headS at h4; exact ⟨h5, h6, by omega⟩
end Go.Proofs.YtoiiblkncbnlaaaGreat

/-
  Chapter 42: all parts together are the amounts. Conditions: those of each theorem.
-/
set_option linter.unusedVariables false
set_option linter.unusedSimpArgs false
namespace Go.Proofs.YtoiiblkncbnlaaaGreat
open Go.DL
theorem sumL_append (l m : List Int) : sumL 0 (l ++ m) = sumL 0 l + sumL 0 m := by
  have : ∀ n : Int, sumL n (l ++ m) = sumL n l + sumL 0 m := by
    induction l with
    | nil => intro n; have := sumL_add m 0 n; simp only [List.nil_append, sumL]; rw [← Int.zero_add n, this]; omega
    | cons y l ih => intro n; simp only [List.cons_append, sumL]; exact ih _
  exact this 0
theorem sumL_rep0 (n : Nat) : sumL 0 (List.replicate n 0) = 0 := by
  induction n with
  | zero => rfl
  | succ n ih => rw [List.replicate_succ']; rw [sumL_append, ih]; rfl
theorem eqL_list {a : Int} (ha : 0 ≤ a) (n : Nat) : eqL a n = (List.range n).map fun j : Nat => a / n + if (j : Int) < a % n then 1 else 0 := by
  apply List.ext_getElem?
  intro j
  by_cases hj : j < n
  · rw [eqL_get ha hj, List.getElem?_map, List.getElem?_range hj]; rfl
  · rw [List.getElem?_eq_none (by rw [eqL_length]; omega), List.getElem?_eq_none (by simp; omega)]
theorem sum_range_ind (c r : Int) (h0 : 0 ≤ r) : ∀ n : Nat, sumL 0 ((List.range n).map fun j : Nat => c + if (j : Int) < r then 1 else 0) = c * n + (if (n : Int) ≤ r then (n : Int) else r)
  | 0 => by simp [sumL]; omega
  | n + 1 => by
    rw [List.range_succ, List.map_append, sumL_append, sum_range_ind c r h0 n]
    simp only [List.map_cons, List.map_nil, sumL, Int.natCast_add, Int.natCast_one, Int.mul_add, Int.mul_one]
    split <;> split <;> split <;> omega
theorem eqL_sum {a : Int} {n : Nat} (ha : 0 ≤ a) (hn : 1 ≤ n) : sumL 0 (eqL a n) = a := by
  have h1 := Int.emod_nonneg a (show (n : Int) ≠ 0 by omega)
  have h2 := Int.emod_lt_of_pos a (show (0 : Int) < n by omega)
  have h3 := Int.mul_ediv_add_emod a n
  rw [eqL_list ha, sum_range_ind _ _ h1, if_neg (by omega), Int.mul_comm]
  omega
/-- What one prize gives to the ranks. -/
def onePart (q : Prize) (i : Nat) : Int := if q.f ≤ ((i + 1 : Nat) : Int) ∧ ((i + 1 : Nat) : Int) ≤ q.t then (eqL q.a (q.t - q.f + 1).toNat).getD (((i + 1 : Nat) : Int) - q.f).toNat 0 else 0
theorem onePart_list {q : Prize} (h1 : 1 ≤ q.f) (h2 : q.f ≤ q.t) (h3 : q.t ≤ 24) : (List.range 24).map (onePart q) = List.replicate (q.f.toNat - 1) 0 ++ eqL q.a (q.t - q.f + 1).toNat ++ List.replicate (24 - q.t.toNat) 0 := by
  have hlen := eqL_length q.a (q.t - q.f + 1).toNat
  apply List.ext_getElem?
  intro j
  by_cases hj : j < 24
  · rw [List.getElem?_map, List.getElem?_range hj, Option.map_some, onePart]
    by_cases ha : (j : Int) + 1 < q.f
    · rw [if_neg (by omega), List.append_assoc, List.getElem?_append_left (by simp; omega), List.getElem?_replicate, if_pos (by omega)]
    · by_cases hb : (j : Int) + 1 ≤ q.t
      · rw [if_pos (by omega), List.append_assoc, List.getElem?_append_right (by simp; omega), List.getElem?_append_left (by simp; omega), List.length_replicate, List.getD]
        have e : (((j + 1 : Nat) : Int) - q.f).toNat = j - (q.f.toNat - 1) := by omega
        rw [e, List.getElem?_eq_getElem (by omega)]; rfl
      · rw [if_neg (by omega), List.getElem?_append_right (by simp; omega), List.getElem?_replicate, if_pos (by simp; omega)]
  · rw [List.getElem?_eq_none (by simp; omega), List.getElem?_eq_none (by simp; omega)]
theorem map_add (l : List Nat) (f g : Nat → Int) : sumL 0 (l.map fun i => f i + g i) = sumL 0 (l.map f) + sumL 0 (l.map g) := by
  induction l with
  | nil => rfl
  | cons x l ih =>
    have e : ∀ (y : Int) (l : List Int), sumL 0 (y :: l) = sumL 0 l + y := fun y l => by simp only [sumL]; exact sumL_add l 0 y
    simp only [List.map_cons, e, ih]; omega
theorem partL_sum {ps : List Prize} : ∀ {last : Int}, 0 ≤ last → prOK last ps = true → sumL 0 (partL ps) = sumA ps := by
  induction ps with
  | nil =>
    intro last _ _
    have : partL [] = List.replicate 24 0 := by decide
    rw [this, sumL_rep0]; rfl
  | cons q l ih =>
    intro last h0 h
    have hm := prOK_mem h q (by simp)
    rw [prOK] at h
    split at h
    · cases h
    · have e1 : partL (q :: l) = (List.range 24).map fun i : Nat => onePart q i + part l ((i + 1 : Nat) : Int) := by
        unfold partL
        refine List.map_congr_left fun i _ => ?_
        show part (q :: l) ((i : Int) + 1) = _
        rw [part, onePart]
        have hc : ((i + 1 : Nat) : Int) = (i : Int) + 1 := by omega
        rw [hc]
        split
        · rename_i hr
          rw [part_low h hr.2]; omega
        · omega
      have e2 : sumA (q :: l) = sumA l + q.a := by unfold sumA; simp only [List.map_cons, sumL]; exact sumL_add _ 0 q.a
      rw [e1, map_add, onePart_list (by omega) (by omega) (by omega), sumL_append, sumL_append, sumL_rep0, sumL_rep0, eqL_sum (by omega) (by omega), e2, ← ih (by omega) h]
      unfold partL
      have : (fun i : Nat => part l ((i + 1 : Nat) : Int)) = fun i : Nat => part l ((i : Int) + 1) := by funext i; congr 1
      rw [this]; omega
theorem sumL_take_le {l : List Int} (h : ∀ x ∈ l, 0 ≤ x) (m : Nat) : sumL 0 (l.take m) ≤ sumL 0 l ∧ 0 ≤ sumL 0 (l.drop m) := by
  have e := sumL_append (l.take m) (l.drop m)
  rw [List.take_append_drop] at e
  have h1 := sumL_nonneg (l := l.drop m) fun x hx => h x (List.mem_of_mem_drop hx)
  omega
theorem partL_nonneg {ps : List Prize} {last : Int} (h : prOK last ps = true) : ∀ x ∈ partL ps, 0 ≤ x := by
  intro x hx
  obtain ⟨i, _, rfl⟩ := List.mem_map.1 hx
  exact (part_bounds42 h _).1
theorem part_total {ps : List Prize} (h : prOK 0 ps = true) (hs : sumA ps ≤ 1125899906842624) (i m : Nat) : sumL 0 (((partL ps).drop i).take m) ≤ 1125899906842624 := by
  have hn := partL_nonneg h
  have h1 := (sumL_take_le (l := (partL ps).drop i) (fun x hx => hn x (List.mem_of_mem_drop hx)) m).1
  have h2 := sumL_append ((partL ps).take i) ((partL ps).drop i)
  rw [List.take_append_drop] at h2
  have h3 := sumL_nonneg (l := (partL ps).take i) fun x hx => hn x (List.mem_of_mem_take hx)
  have h4 := partL_sum (Int.le_refl 0) h
  omega
end Go.Proofs.YtoiiblkncbnlaaaGreat
namespace Go.Proofs.YtoiiblkncbnlaaaGreat
end Go.Proofs.YtoiiblkncbnlaaaGreat
namespace Go.Proofs.YtoiiblkncbnlaaaGreat
theorem share_end {ps : List Place} {ns : List Int} {j : Nat} (h : ps.length ≤ j) : share (ps.drop j) (ns.drop j) = [] := by rw [List.drop_eq_nil_of_le h]; rfl
end Go.Proofs.YtoiiblkncbnlaaaGreat
namespace Go.Proofs.YtoiiblkncbnlaaaGreat
end Go.Proofs.YtoiiblkncbnlaaaGreat

/-
  Chapter 42: the league of a competition. Conditions: those of each theorem.
-/
set_option linter.unusedVariables false
set_option linter.unusedSimpArgs false
namespace Go.Proofs.YtoiiblkncbnlaaaGreat
open Go.DL
def tab0 : Tab := ⟨0, 0, []⟩
def sch0 : Sch := ⟨0, [], 0, 0, 0, 0⟩
def ofB (ts : List Tab) (ss : List Sch) (c : Int) : Bool := decide (0 ≤ idxT c ts 0 ∧ 0 ≤ idxS c ss 0)
def ofT (ts : List Tab) (ss : List Sch) (c : Int) : Tab := if ofB ts ss c then ts.getD (idxT c ts 0).toNat tab0 else tab0
def ofS (ts : List Tab) (ss : List Sch) (c : Int) : Sch := if ofB ts ss c then ss.getD (idxS c ss 0).toNat sch0 else sch0
theorem ofB_no {ts : List Tab} {ss : List Sch} {c : Int} (h : idxT c ts 0 < 0 ∨ idxS c ss 0 < 0) : ofB ts ss c = false := decide_eq_false (by omega)
theorem ofB_yes {ts : List Tab} {ss : List Sch} {c : Int} (h : 0 ≤ idxT c ts 0) (h2 : 0 ≤ idxS c ss 0) : ofB ts ss c = true := decide_eq_true ⟨h, h2⟩
theorem ofT_no {ts : List Tab} {ss : List Sch} {c : Int} (h : ofB ts ss c = false) : ofT ts ss c = tab0 := by rw [ofT, h]; rfl
theorem ofS_no {ts : List Tab} {ss : List Sch} {c : Int} (h : ofB ts ss c = false) : ofS ts ss c = sch0 := by rw [ofS, h]; rfl
theorem ofT_yes {ts : List Tab} {ss : List Sch} {c : Int} (h : ofB ts ss c = true) {x : Tab} (hx : ts[(idxT c ts 0).toNat]? = some x) : ofT ts ss c = x := by rw [ofT, if_pos h, List.getD, hx]; rfl
theorem ofS_yes {ts : List Tab} {ss : List Sch} {c : Int} (h : ofB ts ss c = true) {x : Sch} (hx : ss[(idxS c ss 0).toNat]? = some x) : ofS ts ss c = x := by rw [ofS, if_pos h, List.getD, hx]; rfl
theorem idxT_range (c : Int) : ∀ (l : List Tab) (k : Nat), (idxT c l k = -1) ∨ ((k : Int) ≤ idxT c l k ∧ idxT c l k < (k + l.length : Nat))
  | [], k => .inl rfl
  | x :: l, k => by
    rw [idxT]; split
    · exact .inr ⟨Int.le_refl _, by simp only [List.length_cons]; omega⟩
    · rcases idxT_range c l (k + 1) with h1 | ⟨h1, h2⟩
      · exact .inl h1
      · exact .inr ⟨by omega, by simp only [List.length_cons]; omega⟩
theorem idxS_range (c : Int) : ∀ (l : List Sch) (k : Nat), (idxS c l k = -1) ∨ ((k : Int) ≤ idxS c l k ∧ idxS c l k < (k + l.length : Nat))
  | [], k => .inl rfl
  | x :: l, k => by
    rw [idxS]; split
    · exact .inr ⟨Int.le_refl _, by simp only [List.length_cons]; omega⟩
    · rcases idxS_range c l (k + 1) with h1 | ⟨h1, h2⟩
      · exact .inl h1
      · exact .inr ⟨by omega, by simp only [List.length_cons]; omega⟩
theorem idxT_here {c : Int} {l : List Tab} {i : Nat} {x : Tab} (hx : l[i]? = some x) (h : x.c = c) : idxT c (l.drop i) i = i := by rw [drop_cons hx, idxT, if_pos h]
theorem idxS_here {c : Int} {l : List Sch} {i : Nat} {x : Sch} (hx : l[i]? = some x) (h : x.c = c) : idxS c (l.drop i) i = i := by rw [drop_cons hx, idxS, if_pos h]
theorem idxT_skip {c : Int} {l : List Tab} {i : Nat} {x : Tab} (hx : l[i]? = some x) (h : ¬ x.c = c) : idxT c (l.drop i) i = idxT c (l.drop (i + 1)) (i + 1) := by rw [drop_cons hx, idxT, if_neg h]
theorem idxS_skip {c : Int} {l : List Sch} {i : Nat} {x : Sch} (hx : l[i]? = some x) (h : ¬ x.c = c) : idxS c (l.drop i) i = idxS c (l.drop (i + 1)) (i + 1) := by rw [drop_cons hx, idxS, if_neg h]
theorem idxS_end {c : Int} {l : List Sch} {i : Nat} (h : l.length ≤ i) : idxS c (l.drop i) i = -1 := by rw [List.drop_eq_nil_of_le h]; rfl
theorem idxT_end {c : Int} {l : List Tab} {i : Nat} (h : l.length ≤ i) : idxT c (l.drop i) i = -1 := by rw [List.drop_eq_nil_of_le h]; rfl
/-- What the reference's search has found out. -/
def Past (ts : List Tab) (ss : List Sch) (c : Int) (i : Nat) : Prop := idxT c (ts.drop i) i = idxT c ts 0 ∨ idxS c ss 0 = -1
theorem past_hit {ts : List Tab} {ss : List Sch} {c : Int} {i k : Nat} {x : Tab} {y : Sch} (hp : Past ts ss c i) (iv : idxS c (ss.drop k) k = idxS c ss 0) (hx : ts[i]? = some x) (h1 : x.c = c) (hy : ss[k]? = some y) (h2 : y.c = c) :
    ofB ts ss c = true ∧ ofT ts ss c = x ∧ ofS ts ss c = y := by
  rw [idxS_here hy h2] at iv
  rcases hp with hp | hp
  · rw [idxT_here hx h1] at hp
    have hb := ofB_yes (ts := ts) (ss := ss) (c := c) (by omega) (by omega)
    exact ⟨hb, ofT_yes hb (by rw [← hp]; simpa using hx), ofS_yes hb (by rw [← iv]; simpa using hy)⟩
  · omega
theorem past_end {ts : List Tab} {ss : List Sch} {c : Int} {i : Nat} (hp : Past ts ss c i) (h : ts.length ≤ i) : ofB ts ss c = false := by
  rcases hp with hp | hp
  · rw [idxT_end h] at hp; exact ofB_no (.inl (by omega))
  · exact ofB_no (.inr (by omega))
theorem past_skip {ts : List Tab} {ss : List Sch} {c : Int} {i : Nat} {x : Tab} (hp : Past ts ss c i) (hx : ts[i]? = some x) (h : ¬ x.c = c) : Past ts ss c (i + 1) := by
  rcases hp with hp | hp
  · exact .inl (by rw [← idxT_skip hx h]; exact hp)
  · exact .inr hp
theorem past_none {ts : List Tab} {ss : List Sch} {c : Int} {i k : Nat} (iv : idxS c (ss.drop k) k = idxS c ss 0) (h : ss.length ≤ k) : Past ts ss c (i + 1) := .inr (by rw [← iv, idxS_end h])
end Go.Proofs.YtoiiblkncbnlaaaGreat

/-
  Chapter 42: the clubs of the next season, plainly. Conditions: those of each theorem.
-/
set_option linter.unusedVariables false
set_option linter.unusedSimpArgs false
namespace Go.Proofs.YtoiiblkncbnlaaaGreat
open Go.DL
/-- The error of a neighbouring league. -/
def sideE (ts : List Tab) (ss : List Sch) (t : Tab) (n c b : Int) : Int :=
  if n = -1 then 0 else if ofB ts ss n = false ∨ (ofT ts ss n).s ≠ t.s ∨ b ≠ c then 420 else movE (ofT ts ss n) (ofS ts ss n)
def aboveE (ts : List Tab) (ss : List Sch) (c : Int) : Int := sideE ts ss (ofT ts ss c) (ofS ts ss c).ab c (ofS ts ss (ofS ts ss c).ab).be
def belowE (ts : List Tab) (ss : List Sch) (c : Int) : Int := sideE ts ss (ofT ts ss c) (ofS ts ss c).be c (ofS ts ss (ofS ts ss c).be).ab
def aboveL (ts : List Tab) (ss : List Sch) (n : Int) : List Int := if n = -1 then [] else downM (ofT ts ss n) (ofS ts ss n)
def belowL (ts : List Tab) (ss : List Sch) (n : Int) : List Int := if n = -1 then [] else upM (ofT ts ss n) (ofS ts ss n)
def stays (t : Tab) (s : Sch) (x : Int) : Bool := !(upM t s).contains x && !(downM t s).contains x
def restL (t : Tab) (s : Sch) : List Int := (t.l.map clubOf).filter (stays t s)
def comeL (ts : List Tab) (ss : List Sch) (c : Int) : List Int := aboveL ts ss (ofS ts ss c).ab ++ belowL ts ss (ofS ts ss c).be ++ restL (ofT ts ss c) (ofS ts ss c)
def preE (ts : List Tab) (ss : List Sch) (c : Int) : Int :=
  if ofB ts ss c = false then 420 else if movE (ofT ts ss c) (ofS ts ss c) ≠ 0 then movE (ofT ts ss c) (ofS ts ss c) else if aboveE ts ss c ≠ 0 then aboveE ts ss c else belowE ts ss c
def nextE (ts : List Tab) (ss : List Sch) (c : Int) : Int :=
  if preE ts ss c ≠ 0 then preE ts ss c else if (comeL ts ss c).Nodup ∧ 2 ≤ (comeL ts ss c).length ∧ (comeL ts ss c).length ≤ 24 then 0 else 190
def nextL (ts : List Tab) (ss : List Sch) (c : Int) : List Int := if nextE ts ss c ≠ 0 then [] else srtI (comeL ts ss c)
theorem upM_length (t : Tab) (s : Sch) : (upM t s).length ≤ t.l.length := by
  unfold upM; split
  · simp
  · rw [clubsL, srtI_length, List.length_map, List.length_take]; omega
theorem downM_length (t : Tab) (s : Sch) : (downM t s).length ≤ t.l.length := by
  unfold downM; split
  · simp
  · rw [clubsL, srtI_length, List.length_map, List.length_drop]; omega
theorem rest_step {t : Tab} {s : Sch} {l : List Int} {k : Nat} {x : Place} {o : List Int} (h : o = l ++ ((t.l.take k).map clubOf).filter (stays t s)) (hx : t.l[k]? = some x) (hs : stays t s x.r.c = true) : o ++ [x.r.c] = l ++ ((t.l.take (k + 1)).map clubOf).filter (stays t s) := by
  have e : [clubOf x].filter (stays t s) = [clubOf x] := by rw [List.filter_cons, show stays t s (clubOf x) = true from hs]; rfl
  rw [take_snoc hx, List.map_append, List.filter_append, h, List.append_assoc]
  congr 2
  exact e.symm
theorem rest_skip {t : Tab} {s : Sch} {l : List Int} {k : Nat} {x : Place} {o : List Int} (h : o = l ++ ((t.l.take k).map clubOf).filter (stays t s)) (hx : t.l[k]? = some x) (hs : stays t s x.r.c = false) : o = l ++ ((t.l.take (k + 1)).map clubOf).filter (stays t s) := by
  have e : [clubOf x].filter (stays t s) = [] := by rw [List.filter_cons, show stays t s (clubOf x) = false from hs]; rfl
  rw [take_snoc hx, List.map_append, List.filter_append, h]
  show _ = l ++ (_ ++ [clubOf x].filter (stays t s))
  rw [e, List.append_nil]
/-- The numbers met so far, in order, none of them twice. -/
theorem ord_step {l : List Int} {k : Nat} {x : Int} {o : List Int} (h : o = insAllI (l.take k)) (hn : (l.take k).Nodup) (hx : l[k]? = some x) (hm : o.contains x = false) : insI x o = insAllI (l.take (k + 1)) ∧ (l.take (k + 1)).Nodup := by
  rw [take_snoc hx]
  refine ⟨by rw [insAllI_snoc, h], ?_⟩
  rw [List.nodup_append]
  refine ⟨hn, by simp, fun a ha b hb => ?_⟩
  simp only [List.mem_singleton] at hb
  subst hb
  rintro rfl
  have : a ∈ o := by rw [h, insAllI_eq]; exact (srtI_perm _).mem_iff.2 ha
  have h2 : o.contains a = true := by simpa using this
  rw [h2] at hm; cases hm
theorem ord_twice {l : List Int} {k : Nat} {x : Int} {o : List Int} (h : o = insAllI (l.take k)) (hx : l[k]? = some x) (hm : o.contains x = true) : ¬ l.Nodup := by
  intro hn
  have h1 : x ∈ l.take k := by
    have : x ∈ o := by simpa using hm
    rw [h, insAllI_eq] at this
    exact (srtI_perm _).mem_iff.1 this
  have h2 : (l.take (k + 1)).Nodup := hn.sublist (List.take_sublist _ _)
  rw [take_snoc hx, List.nodup_append] at h2
  exact h2.2.2 x h1 x (by simp) rfl
end Go.Proofs.YtoiiblkncbnlaaaGreat
namespace Go.Proofs.YtoiiblkncbnlaaaGreat
open Go.DL
section
variable {ts : List Tab} {ss : List Sch} {c n b : Int} {t : Tab}
theorem sideE_skip (h : n = -1) : sideE ts ss t n c b = 0 := by rw [sideE, if_pos h]
theorem sideE_420 (h : n ≠ -1) (h2 : ofB ts ss n = false ∨ (ofT ts ss n).s ≠ t.s ∨ b ≠ c) : sideE ts ss t n c b = 420 := by rw [sideE, if_neg h, if_pos h2]
theorem sideE_ok (h : n ≠ -1) (h1 : ofB ts ss n = true) (h2 : (ofT ts ss n).s = t.s) (h3 : b = c) : sideE ts ss t n c b = movE (ofT ts ss n) (ofS ts ss n) := by
  rw [sideE, if_neg h, if_neg]
  rintro (h4 | h4 | h4)
  · rw [h1] at h4; cases h4
  · exact h4 h2
  · exact h4 h3
theorem preE_1 (h : ofB ts ss c = false) : preE ts ss c = 420 := by rw [preE, if_pos h]
theorem preE_2 (h : ofB ts ss c = true) (h2 : movE (ofT ts ss c) (ofS ts ss c) ≠ 0) : preE ts ss c = movE (ofT ts ss c) (ofS ts ss c) := by rw [preE, if_neg (by rw [h]; simp), if_pos h2]
theorem preE_3 (h : ofB ts ss c = true) (h2 : movE (ofT ts ss c) (ofS ts ss c) = 0) (h3 : aboveE ts ss c ≠ 0) : preE ts ss c = aboveE ts ss c := by rw [preE, if_neg (by rw [h]; simp), if_neg (by omega), if_pos h3]
theorem preE_4 (h : ofB ts ss c = true) (h2 : movE (ofT ts ss c) (ofS ts ss c) = 0) (h3 : aboveE ts ss c = 0) : preE ts ss c = belowE ts ss c := by rw [preE, if_neg (by rw [h]; simp), if_neg (by omega), if_neg (by omega)]
theorem nextE_pre {e : Int} (h : preE ts ss c = e) (h0 : e ≠ 0) : nextE ts ss c = e := by rw [nextE, if_pos (by omega), h]
theorem nextE_190 (h : preE ts ss c = 0) (h2 : ¬ ((comeL ts ss c).Nodup ∧ 2 ≤ (comeL ts ss c).length ∧ (comeL ts ss c).length ≤ 24)) : nextE ts ss c = 190 := by rw [nextE, if_neg (by omega), if_neg h2]
theorem nextE_0 (h : preE ts ss c = 0) (h2 : (comeL ts ss c).Nodup ∧ 2 ≤ (comeL ts ss c).length ∧ (comeL ts ss c).length ≤ 24) : nextE ts ss c = 0 := by rw [nextE, if_neg (by omega), if_pos h2]
theorem nextL_nil {e : Int} (h : nextE ts ss c = e) (h0 : e ≠ 0) : nextL ts ss c = [] := by rw [nextL, if_pos (by omega)]
theorem nextL_ok (h : nextE ts ss c = 0) : nextL ts ss c = srtI (comeL ts ss c) := by rw [nextL, if_neg (by omega)]
end
end Go.Proofs.YtoiiblkncbnlaaaGreat
namespace Go.Proofs.YtoiiblkncbnlaaaGreat
open Go.DL
section
variable {ts : List Tab} {ss : List Sch} {c : Int}
theorem err_1 (h : ofB ts ss c = false) : nextE ts ss c = 420 := nextE_pre (preE_1 h) (by omega)
theorem err_2 (h : ofB ts ss c = true) (h2 : movE (ofT ts ss c) (ofS ts ss c) ≠ 0) : nextE ts ss c = movE (ofT ts ss c) (ofS ts ss c) := nextE_pre (preE_2 h h2) h2
theorem err_3 (h : ofB ts ss c = true) (h2 : movE (ofT ts ss c) (ofS ts ss c) = 0) (hn : (ofS ts ss c).ab ≠ -1)
    (hd : ofB ts ss (ofS ts ss c).ab = false ∨ (ofT ts ss (ofS ts ss c).ab).s ≠ (ofT ts ss c).s ∨ (ofS ts ss (ofS ts ss c).ab).be ≠ c) : nextE ts ss c = 420 := by
  have e : aboveE ts ss c = 420 := sideE_420 hn hd
  exact nextE_pre ((preE_3 h h2 (by omega)).trans e) (by omega)
theorem err_4 (h : ofB ts ss c = true) (h2 : movE (ofT ts ss c) (ofS ts ss c) = 0) (hn : (ofS ts ss c).ab ≠ -1) (h3 : ofB ts ss (ofS ts ss c).ab = true) (h4 : (ofT ts ss (ofS ts ss c).ab).s = (ofT ts ss c).s) (h5 : (ofS ts ss (ofS ts ss c).ab).be = c)
    (hm : movE (ofT ts ss (ofS ts ss c).ab) (ofS ts ss (ofS ts ss c).ab) ≠ 0) : nextE ts ss c = movE (ofT ts ss (ofS ts ss c).ab) (ofS ts ss (ofS ts ss c).ab) := by
  have e : aboveE ts ss c = _ := sideE_ok hn h3 h4 h5
  exact nextE_pre ((preE_3 h h2 (by omega)).trans e) hm
theorem err_5 (h : ofB ts ss c = true) (h2 : movE (ofT ts ss c) (ofS ts ss c) = 0) (ha : aboveE ts ss c = 0) (hn : (ofS ts ss c).be ≠ -1)
    (hd : ofB ts ss (ofS ts ss c).be = false ∨ (ofT ts ss (ofS ts ss c).be).s ≠ (ofT ts ss c).s ∨ (ofS ts ss (ofS ts ss c).be).ab ≠ c) : nextE ts ss c = 420 := by
  have e : belowE ts ss c = 420 := sideE_420 hn hd
  exact nextE_pre ((preE_4 h h2 ha).trans e) (by omega)
theorem err_6 (h : ofB ts ss c = true) (h2 : movE (ofT ts ss c) (ofS ts ss c) = 0) (ha : aboveE ts ss c = 0) (hn : (ofS ts ss c).be ≠ -1) (h3 : ofB ts ss (ofS ts ss c).be = true) (h4 : (ofT ts ss (ofS ts ss c).be).s = (ofT ts ss c).s) (h5 : (ofS ts ss (ofS ts ss c).be).ab = c)
    (hm : movE (ofT ts ss (ofS ts ss c).be) (ofS ts ss (ofS ts ss c).be) ≠ 0) : nextE ts ss c = movE (ofT ts ss (ofS ts ss c).be) (ofS ts ss (ofS ts ss c).be) := by
  have e : belowE ts ss c = _ := sideE_ok hn h3 h4 h5
  exact nextE_pre ((preE_4 h h2 ha).trans e) hm
theorem ofT_len (h : ∀ t ∈ ts, t.l.length ≤ 30) (n : Int) : (ofT ts ss n).l.length ≤ 30 := by
  unfold ofT; split
  · rw [List.getD]
    cases hg : ts[(idxT n ts 0).toNat]? with
    | none => simp [tab0]
    | some x => exact h x (List.mem_of_getElem? hg)
  · simp [tab0]
theorem ofS_len (h : ∀ s ∈ ss, s.p.length ≤ 30) (n : Int) : (ofS ts ss n).p.length ≤ 30 := by
  unfold ofS; split
  · rw [List.getD]
    cases hg : ss[(idxS n ss 0).toNat]? with
    | none => simp [sch0]
    | some x => exact h x (List.mem_of_getElem? hg)
  · simp [sch0]
theorem rest_all {t : Tab} {s : Sch} {l o : List Int} {k : Nat} (h : o = l ++ ((t.l.take k).map clubOf).filter (stays t s)) (hk : t.l.length ≤ k) : o = l ++ restL t s := by
  rw [List.take_of_length_le hk] at h; exact h
end
end Go.Proofs.YtoiiblkncbnlaaaGreat

/-
  Chapter 42: small enough. Conditions: those of each theorem.
-/
set_option linter.unusedVariables false
set_option linter.unusedSimpArgs false
namespace Go.Proofs.YtoiiblkncbnlaaaGreat
open Go.DL
def Few (ts : List Tab) (ss : List Sch) : Prop := ts.length ≤ 5 ∧ ss.length ≤ 5 ∧ (∀ t ∈ ts, t.l.length ≤ 30) ∧ (∀ s ∈ ss, s.p.length ≤ 30)
instance (ts : List Tab) (ss : List Sch) : Decidable (Few ts ss) := by unfold Few; infer_instance
theorem all_snoc {α : Type} {l : List α} {p : α → Prop} {k : Nat} {x : α} (h : ∀ y ∈ l.take k, p y) (hx : l[k]? = some x) (hp : p x) : ∀ y ∈ l.take (k + 1), p y := by
  rw [take_snoc hx]
  intro y hy
  rcases List.mem_append.1 hy with hy | hy
  · exact h y hy
  · simp at hy; subst hy; exact hp
end Go.Proofs.YtoiiblkncbnlaaaGreat

/-
  Chapter 42: tables of tied clubs. Conditions: those of each theorem.
-/
set_option linter.unusedVariables false
set_option linter.unusedSimpArgs false
namespace Go.Proofs.YtoiiblkncbnlaaaGreat
open Go.DL
def tied (x : Int) : Place := ⟨1, 0, [], ⟨x, 0, 0, 0, 0, 0, 0, 0, 0, 0, 0⟩⟩
def levelT (c : Int) (cs : List Int) : Tab := ⟨0, c, cs.map tied⟩
theorem level_step {cs : List Int} {o : List Place} {k : Nat} {x : Int} (h : o = (cs.take k).map tied) (hx : cs[k]? = some x) : o ++ [(⟨1, 0, [], ⟨x, 0, 0, 0, 0, 0, 0, 0, 0, 0, 0⟩⟩ : Place)] = (cs.take (k + 1)).map tied := by
  rw [take_snoc hx, List.map_append, h]; rfl
end Go.Proofs.YtoiiblkncbnlaaaGreat

/-
  Chapter 42: equal parts, and what each rank is paid. Conditions: those of each theorem.
-/
set_option linter.unusedVariables false
set_option linter.unusedSimpArgs false
namespace Go.Proofs.YtoiiblkncbnlaaaGreat
open Go.DL
set_option maxHeartbeats 4000000
theorem splitOK_ones {a : Int} {n : Nat} (ha : 0 ≤ a) (ha2 : a ≤ 1125899906842624) (h1 : 1 ≤ n) (h2 : n ≤ 256) : splitOK a (onesL n) :=
  ⟨ha, ha2, fun x hx => by have := List.eq_of_mem_replicate hx; omega, by rw [onesL_length]; exact h2, by rw [sumL_ones]; omega⟩
/-- One more than half of the ones stands; the doubling goes on. -/
theorem repeat_eq {n : Int} (h1 : 1 ≤ n) (h2 : n ≤ 256) : g_slices_Repeat_Lint_int [(1 : Int)] n = some (onesL n.toNat) := by
  refine WP.eq ?_
  obtain ⟨m, rfl⟩ : ∃ m : Nat, n = (m : Int) := ⟨n.toNat, by omega⟩
  unfold g_slices_Repeat_Lint_int
  have hw1 : IntKind.u64.wrap ((([(1 : Int)] : List Int).length : Nat) : Int) = 1 := by decide
  have hw2 : IntKind.u64.wrap (m : Int) = (m : Int) := by
    unfold IntKind.wrap; simp [IntKind.bits]; omega
  refine WP.iteD (fun h => absurd h (by omega)) (fun _ => ?_)
  refine WP.bd (r := (0, (m : Int))) ?_ ?_
  · rw [hw1, hw2]
    unfold g_bits_Mul
    rw [if_pos (by omega)]
    congr 2 <;> omega
  have hrep : ∀ k l, k ≤ m → l = onesL k ++ List.replicate (m - k) 0 → l.length = m := fun k l hk hl => by rw [hl]; simp [onesL]; omega
  have j1 : WP (g_slices_Repeat_Lint_int_j1 (0, (m : Int)) [1] false) (fun x => x = onesL (m : Int).toNat) := by
    unfold g_slices_Repeat_Lint_int_j1
    (first | with_reducible (first | refine WP.iteT ?_ | refine WP.iteF ?_ | refine WP.iteNb ?_ | refine WP.iteD (fun _ => ?_) (fun _ => ?_) | refine WP.iteE (fun _ => ?_) (fun _ => ?_) | refine WP.iteN (fun _ => ?_) (fun _ => ?_) | refine WP.iteB (fun _ => ?_) (fun _ => ?_)) | (with_reducible refine WP.ckI ?_ ?_; · omega) | (with_reducible refine WP.gn ?_ (fun _ _ => ?_); · omega) | (with_reducible refine WP.gt ?_ (fun _ _ => ?_); · omega) | with_reducible (first | refine WP.up ?_ | refine WP.letO ?_ | refine WP.ret ?_)); (first | with_reducible (first | refine WP.iteT ?_ | refine WP.iteF ?_ | refine WP.iteNb ?_ | refine WP.iteD (fun _ => ?_) (fun _ => ?_) | refine WP.iteE (fun _ => ?_) (fun _ => ?_) | refine WP.iteN (fun _ => ?_) (fun _ => ?_) | refine WP.iteB (fun _ => ?_) (fun _ => ?_)) | (with_reducible refine WP.ckI ?_ ?_; · omega) | (with_reducible refine WP.gn ?_ (fun _ _ => ?_); · omega) | (with_reducible refine WP.gt ?_ (fun _ _ => ?_); · omega) | with_reducible (first | refine WP.up ?_ | refine WP.letO ?_ | refine WP.ret ?_))
    refine WP.ck (by dsimp only; omega) ?_
    refine WP.ck (by simp) ?_
    refine WP.letO ?_
    refine WP.loop (fun v => 1 ≤ v.1 ∧ v.1 ≤ m ∧ v.2 = onesL v.1 ++ List.replicate (m - v.1) 0) (fun v => m - v.1) ?_ ?_
    · rintro ⟨k, l⟩ ⟨hk, hk2, hv⟩
      dsimp only at hk hk2 hv ⊢
      have hlen := hrep k l hk2 hv
      simp only [g_slices_Repeat_Lint_int_l3]
      rw [hlen]
      refine WP.iteD (fun hlt => ?_) (fun hlt => ?_)
      · refine WP.sbp (by simp; omega) ?_
        refine WP.sbp (by simp; omega) ?_
        refine WP.ck (by simp; omega) ?_
        refine WP.ck (by simp; omega) ?_
        refine WP.letO ?_
        have e1 : ((some (k : Int)).getD 0).toNat = k := by simp
        have e2 : (((none : Option Int).getD ((m : Nat) : Int)).toNat - k) = m - k := by simp
        have e3 : (((none : Option Int).getD 0).toNat) = 0 := by simp
        have e4 : ((some (k : Int)).getD ((m : Nat) : Int)).toNat - 0 = k := by simp
        simp only [e1, e2, e3, e4]
        have hk3 : k < m := by omega
        obtain ⟨j, hj⟩ : ∃ j, j = Nat.min k (m - k) := ⟨_, rfl⟩
        have hj1 : 1 ≤ j := by rw [hj, show Nat.min k (m - k) = min k (m - k) from rfl]; omega
        have hj2 : j ≤ k := by rw [hj, show Nat.min k (m - k) = min k (m - k) from rfl]; omega
        have hj3 : j ≤ m - k := by rw [hj, show Nat.min k (m - k) = min k (m - k) from rfl]; omega
        have t1 : l.take k = onesL k := by rw [hv, List.take_append_of_le_length (by simp [onesL])]; simp [onesL]
        have t2 : ((l.drop 0).take k).length = k := by rw [List.drop_zero, t1, onesL_length]
        have t3 : l.drop (k + j) = List.replicate (m - (k + j)) 0 := by
          rw [hv, List.drop_append, List.drop_eq_nil_of_le (by simp [onesL]), onesL_length, List.nil_append, List.drop_replicate]
          congr 1; omega
        rw [t2, ← hj, List.drop_zero, t1, t3]
        (repeat' (first | with_reducible (first | refine WP.iteT ?_ | refine WP.iteF ?_ | refine WP.iteNb ?_ | refine WP.iteD (fun _ => ?_) (fun _ => ?_) | refine WP.iteE (fun _ => ?_) (fun _ => ?_) | refine WP.iteN (fun _ => ?_) (fun _ => ?_) | refine WP.iteB (fun _ => ?_) (fun _ => ?_)) | (with_reducible refine WP.ckI ?_ ?_; · omega) | (with_reducible refine WP.gn ?_ (fun _ _ => ?_); · omega) | (with_reducible refine WP.gt ?_ (fun _ _ => ?_); · omega) | with_reducible (first | refine WP.up ?_ | refine WP.letO ?_ | refine WP.ret ?_)))
        refine ⟨⟨by dsimp only; omega, by dsimp only; omega, ?_⟩, by dsimp only; omega⟩
        dsimp only
        congr 1
        unfold onesL
        rw [List.take_replicate, Nat.min_eq_left hj2, List.replicate_append_replicate]
      · unfold g_slices_Repeat_Lint_int_j2
        (repeat' (first | with_reducible (first | refine WP.iteT ?_ | refine WP.iteF ?_ | refine WP.iteNb ?_ | refine WP.iteD (fun _ => ?_) (fun _ => ?_) | refine WP.iteE (fun _ => ?_) (fun _ => ?_) | refine WP.iteN (fun _ => ?_) (fun _ => ?_) | refine WP.iteB (fun _ => ?_) (fun _ => ?_)) | (with_reducible refine WP.ckI ?_ ?_; · omega) | (with_reducible refine WP.gn ?_ (fun _ _ => ?_); · omega) | (with_reducible refine WP.gt ?_ (fun _ _ => ?_); · omega) | with_reducible (first | refine WP.up ?_ | refine WP.letO ?_ | refine WP.ret ?_)))
        show l = _
        rw [hv, show m - k = 0 by omega]
        simp; congr 1; omega
    · have e0 : ((0 : Int), (m : Int)).2.toNat = m := by simp
      have e1 : Nat.min ([(1 : Int)] : List Int).length (List.replicate ((0 : Int), (m : Int)).2.toNat (0 : Int)).length = 1 := by
        rw [e0, List.length_replicate, List.length_singleton]; exact Nat.min_eq_left (by omega)
      rw [e1, e0]
      refine ⟨by omega, by dsimp only; omega, ?_⟩
      simp [onesL]
  (repeat' (first | with_reducible (first | refine WP.iteT ?_ | refine WP.iteF ?_ | refine WP.iteNb ?_ | refine WP.iteD (fun _ => ?_) (fun _ => ?_) | refine WP.iteE (fun _ => ?_) (fun _ => ?_) | refine WP.iteN (fun _ => ?_) (fun _ => ?_) | refine WP.iteB (fun _ => ?_) (fun _ => ?_)) | (with_reducible refine WP.ckI ?_ ?_; · omega) | (with_reducible refine WP.gn ?_ (fun _ _ => ?_); · omega) | (with_reducible refine WP.gt ?_ (fun _ _ => ?_); · omega) | with_reducible (first | refine WP.up ?_ | refine WP.letO ?_ | refine WP.ret ?_)))
  · rename_i h; exact absurd h (by simp)
  · have : decide (((0 : Int), (m : Int)).2 > 9223372036854775807) = false := by simp; omega
    rw [this]; exact j1
theorem equal_eq {a n : Int} (ha : 0 ≤ a) (ha2 : a ≤ 1125899906842624) (h1 : 1 ≤ n) (h2 : n ≤ 256) : g_prizes_equal a n = some (eqL a n.toNat) := by
  refine WP.eq ?_
  unfold g_prizes_equal
  refine WP.bd (repeat_eq h1 h2) ?_
  refine WP.bd (r := (eqL a n.toNat, 0)) ?_ (WP.ret rfl)
  unfold g_money_Split
  rw [if_pos (splitOK_ones ha ha2 (by omega) (by omega))]; rfl
theorem parts_eq {s : Sch} (hp : prOK 0 s.p = true) (hl : s.p.length ≤ 1000) : g_prizes_parts s = some (partL s.p) := by
  refine WP.eq ?_
  unfold g_prizes_parts
  refine WP.ck (by omega) ?_
  refine WP.loop (fun v => v.1 ≤ s.p.length ∧ v.2.length = 25 ∧ v.2 = fillL (s.p.take v.1) (List.replicate 25 0)) (fun v => s.p.length - v.1) ?_ ⟨by simp, by simp, by simp [fillL]⟩
  rintro ⟨k, l⟩ ⟨hk, h25, hv⟩
  dsimp only at hk h25 hv ⊢
  simp only [g_prizes_parts_l2]
  refine WP.iteD (fun hlt => ?_) (fun hlt => ?_)
  · obtain ⟨x, hx⟩ : ∃ x, s.p[k]? = some x := ⟨_, List.getElem?_eq_getElem (by omega)⟩
    rw [gn_some hx]
    obtain ⟨p1, p2, p3, p4, p5⟩ := prOK_mem hp x (List.mem_of_getElem? hx)
    (first | with_reducible (first | refine WP.iteT ?_ | refine WP.iteF ?_ | refine WP.iteNb ?_ | refine WP.iteD (fun _ => ?_) (fun _ => ?_) | refine WP.iteE (fun _ => ?_) (fun _ => ?_) | refine WP.iteN (fun _ => ?_) (fun _ => ?_) | refine WP.iteB (fun _ => ?_) (fun _ => ?_)) | (with_reducible refine WP.ckI ?_ ?_; · omega) | (with_reducible refine WP.gn ?_ (fun _ _ => ?_); · omega) | (with_reducible refine WP.gt ?_ (fun _ _ => ?_); · omega) | with_reducible (first | refine WP.up ?_ | refine WP.letO ?_ | refine WP.ret ?_)); (first | with_reducible (first | refine WP.iteT ?_ | refine WP.iteF ?_ | refine WP.iteNb ?_ | refine WP.iteD (fun _ => ?_) (fun _ => ?_) | refine WP.iteE (fun _ => ?_) (fun _ => ?_) | refine WP.iteN (fun _ => ?_) (fun _ => ?_) | refine WP.iteB (fun _ => ?_) (fun _ => ?_)) | (with_reducible refine WP.ckI ?_ ?_; · omega) | (with_reducible refine WP.gn ?_ (fun _ _ => ?_); · omega) | (with_reducible refine WP.gt ?_ (fun _ _ => ?_); · omega) | with_reducible (first | refine WP.up ?_ | refine WP.letO ?_ | refine WP.ret ?_))
    refine WP.bd (equal_eq (by omega) (by omega) (by omega) (by omega)) ?_
    have hel : (eqL x.a (x.t - x.f + 1).toNat).length = (x.t - x.f + 1).toNat := eqL_length _ _
    refine WP.loop (fun v => v.1 ≤ (x.t - x.f + 1).toNat ∧ v.2 = putAt l x.f.toNat ((eqL x.a (x.t - x.f + 1).toNat).take v.1)) (fun v => (x.t - x.f + 1).toNat - v.1) ?_ ⟨by simp, by simp [putAt_nil]⟩
    rintro ⟨j, l'⟩ ⟨hj, hv'⟩
    dsimp only at hj hv' ⊢
    simp only [g_prizes_parts_l4]
    refine WP.iteD (fun hlt2 => ?_) (fun hlt2 => ?_)
    · obtain ⟨y, hy⟩ : ∃ y, (eqL x.a (x.t - x.f + 1).toNat)[j]? = some y := ⟨_, List.getElem?_eq_getElem (by omega)⟩
      rw [gn_some hy]
      have hjl : ((eqL x.a (x.t - x.f + 1).toNat).take j).length = j := by rw [List.length_take, hel]; omega
      have hl' : l'.length = 25 := by rw [hv', putAt_length (by rw [hjl]; omega)]; exact h25
      (first | with_reducible (first | refine WP.iteT ?_ | refine WP.iteF ?_ | refine WP.iteNb ?_ | refine WP.iteD (fun _ => ?_) (fun _ => ?_) | refine WP.iteE (fun _ => ?_) (fun _ => ?_) | refine WP.iteN (fun _ => ?_) (fun _ => ?_) | refine WP.iteB (fun _ => ?_) (fun _ => ?_)) | (with_reducible refine WP.ckI ?_ ?_; · omega) | (with_reducible refine WP.gn ?_ (fun _ _ => ?_); · omega) | (with_reducible refine WP.gt ?_ (fun _ _ => ?_); · omega) | with_reducible (first | refine WP.up ?_ | refine WP.letO ?_ | refine WP.ret ?_))
      refine WP.gt (by omega) fun z hz => ?_
      (repeat' (first | with_reducible (first | refine WP.iteT ?_ | refine WP.iteF ?_ | refine WP.iteNb ?_ | refine WP.iteD (fun _ => ?_) (fun _ => ?_) | refine WP.iteE (fun _ => ?_) (fun _ => ?_) | refine WP.iteN (fun _ => ?_) (fun _ => ?_) | refine WP.iteB (fun _ => ?_) (fun _ => ?_)) | (with_reducible refine WP.ckI ?_ ?_; · omega) | (with_reducible refine WP.gn ?_ (fun _ _ => ?_); · omega) | (with_reducible refine WP.gt ?_ (fun _ _ => ?_); · omega) | with_reducible (first | refine WP.up ?_ | refine WP.letO ?_ | refine WP.ret ?_)))
      refine ⟨⟨by dsimp only; omega, ?_⟩, by dsimp only; omega⟩
      dsimp only
      rw [hv', show (x.f + (j : Int)).toNat = x.f.toNat + ((eqL x.a (x.t - x.f + 1).toNat).take j).length by rw [hjl]; omega, putAt_snoc (by rw [hjl]; omega), take_snoc hy]
    · unfold g_prizes_parts_j3
      rw [List.take_of_length_le (by omega)] at hv'
      (repeat' (first | with_reducible (first | refine WP.iteT ?_ | refine WP.iteF ?_ | refine WP.iteNb ?_ | refine WP.iteD (fun _ => ?_) (fun _ => ?_) | refine WP.iteE (fun _ => ?_) (fun _ => ?_) | refine WP.iteN (fun _ => ?_) (fun _ => ?_) | refine WP.iteB (fun _ => ?_) (fun _ => ?_)) | (with_reducible refine WP.ckI ?_ ?_; · omega) | (with_reducible refine WP.gn ?_ (fun _ _ => ?_); · omega) | (with_reducible refine WP.gt ?_ (fun _ _ => ?_); · omega) | with_reducible (first | refine WP.up ?_ | refine WP.letO ?_ | refine WP.ret ?_)))
      refine ⟨⟨by dsimp only; omega, ?_, ?_⟩, by dsimp only; omega⟩
      · dsimp only; rw [hv', putAt_length (by rw [hel]; omega)]; exact h25
      · dsimp only; rw [take_snoc hx, hv', hv]; simp [fillL, List.foldl_append]
  · unfold g_prizes_parts_j1
    (repeat' (first | with_reducible (first | refine WP.iteT ?_ | refine WP.iteF ?_ | refine WP.iteNb ?_ | refine WP.iteD (fun _ => ?_) (fun _ => ?_) | refine WP.iteE (fun _ => ?_) (fun _ => ?_) | refine WP.iteN (fun _ => ?_) (fun _ => ?_) | refine WP.iteB (fun _ => ?_) (fun _ => ?_)) | (with_reducible refine WP.ckI ?_ ?_; · omega) | (with_reducible refine WP.gn ?_ (fun _ _ => ?_); · omega) | (with_reducible refine WP.gt ?_ (fun _ _ => ?_); · omega) | with_reducible (first | refine WP.up ?_ | refine WP.letO ?_ | refine WP.ret ?_)))
    refine WP.sb (by simp; omega) ?_
    refine WP.ret ?_
    rw [List.take_of_length_le (by omega)] at hv
    show subList l (some 1) none = partL s.p
    rw [hv, ← fill_partL hp]; rfl
end Go.Proofs.YtoiiblkncbnlaaaGreat

/-
  Chapter 42: the program's prizes. Conditions: those of each theorem.
-/
set_option linter.unusedVariables false
set_option linter.unusedSimpArgs false
namespace Go.Proofs.YtoiiblkncbnlaaaGreat
open Go.DL
set_option maxHeartbeats 4000000
theorem grpGo_flat (l : List Place) : ∀ (g : List Place) (k : Int), g ≠ [] → (grpGo g k l).flatten = g ++ l ∧ ∀ x ∈ grpGo g k l, x ≠ [] := by
  induction l with
  | nil => intro g k h; simp [grpGo, h]
  | cons p l ih =>
    intro g k h
    rw [grpGo]
    split
    · have := ih (g ++ [p]) k (by simp)
      exact ⟨by rw [this.1]; simp, this.2⟩
    · have := ih [p] p.k (by simp)
      refine ⟨by rw [List.flatten_cons, this.1]; simp, fun x hx => ?_⟩
      rcases List.mem_cons.1 hx with rfl | h2
      · exact h
      · exact this.2 x h2
theorem grp_flat (l : List Place) : (grp l).flatten = l ∧ ∀ x ∈ grp l, x ≠ [] := by
  cases l with
  | nil => simp [grp]
  | cons p l => have := grpGo_flat l [p] p.k (by simp); exact ⟨by rw [grp, this.1]; rfl, this.2⟩
theorem share_sub : ∀ (ps : List Place) (ns : List Int), ((share ps ns).map (·.c)).Sublist (ps.map clubOf)
  | [], _ => by simp [share]
  | p :: ps, [] => by simp [share]
  | p :: ps, n :: ns => by
    rw [share]
    split
    · exact (share_sub ps ns).cons_cons _
    · exact (share_sub ps ns).cons _
theorem payG_sub (gs : List (List Place)) : ∀ r : List Int, ((payG r gs).map (·.c)).Sublist (gs.flatten.map clubOf) := by
  induction gs with
  | nil => intro r; simp [payG]
  | cons g gs ih =>
    intro r
    rw [payG, List.map_append, List.flatten_cons, List.map_append]
    exact (share_sub _ _).append (ih _)
theorem payU_sub (t : Tab) (s : Sch) : ((payU t s).map (·.c)).Sublist (t.l.map clubOf) := by
  have := payG_sub (grp t.l) (partL s.p)
  rwa [(grp_flat t.l).1] at this
theorem plOK_nodup : ∀ (l : List Place) (k : Nat) (q : Place) (seen : List Int), plOK k q seen l = true → (l.map clubOf).Nodup ∧ ∀ x ∈ l.map clubOf, x ∉ seen
  | [], _, _, _, _ => by simp
  | p :: l, k, q, seen, h => by
    rw [plOK] at h
    split at h
    · rename_i hp
      obtain ⟨h1, h2⟩ := plOK_nodup l (k + 1) p _ h
      rw [List.map_cons, List.nodup_cons]
      refine ⟨⟨fun hc => ?_, h1⟩, fun x hx => ?_⟩
      · have := h2 _ hc
        simp [clubOf] at this
      · rcases List.mem_cons.1 hx with rfl | h3
        · exact hp.2.2.2
        · have := h2 _ h3
          simp at this
          exact this.1
    · cases h
theorem chk_nodup {t : Tab} (h : chkT t = 0) : (t.l.map clubOf).Nodup := by
  rcases chkT_cases t with h1 | ⟨_, _, h1⟩
  · omega
  · exact (plOK_nodup _ _ _ _ h1).1
theorem payU_nodup {t : Tab} {s : Sch} (h : chkT t = 0) : ((payU t s).map (·.c)).Nodup := (payU_sub t s).nodup (chk_nodup h)
theorem insP_perm (p : Pay) (l : List Pay) : (insP p l).Perm (p :: l) := by
  induction l with
  | nil => exact List.Perm.refl _
  | cons q l ih =>
    rw [insP]; split
    · exact (ih.cons q).trans (List.Perm.swap p q l)
    · exact List.Perm.refl _
theorem insP_sorted {p : Pay} {l : List Pay} (h : l.Pairwise fun a b => ¬ b.c < a.c) : (insP p l).Pairwise fun a b => ¬ b.c < a.c := by
  induction l with
  | nil => simp [insP]
  | cons q l ih =>
    rw [List.pairwise_cons] at h
    rw [insP]; split
    · rename_i hq
      rw [List.pairwise_cons]
      refine ⟨fun x hx => ?_, ih h.2⟩
      rcases List.mem_cons.1 ((insP_perm p l).mem_iff.1 hx) with rfl | h2
      · omega
      · exact h.1 x h2
    · rename_i hq
      rw [List.pairwise_cons]
      refine ⟨fun x hx => ?_, List.pairwise_cons.2 h⟩
      rcases List.mem_cons.1 hx with rfl | h2
      · exact hq
      · have := h.1 x h2; omega
theorem insF_sorted (l : List Pay) : ∀ o : List Pay, (o.Pairwise fun a b => ¬ b.c < a.c) → (insF o l).Perm (o ++ l) ∧ (insF o l).Pairwise fun a b => ¬ b.c < a.c := by
  induction l with
  | nil => intro o h; exact ⟨by simp [insF], h⟩
  | cons p l ih =>
    intro o h
    have := ih (insP p o) (insP_sorted h)
    refine ⟨?_, this.2⟩
    refine this.1.trans ?_
    exact ((insP_perm p o).append_right l).trans (List.perm_middle.symm)
theorem insAll_eq {l : List Pay} (h : (l.map (·.c)).Nodup) : insAll l = srtP l := by
  have := insF_sorted l [] List.Pairwise.nil
  exact sortP_uniq ⟨by have h1 := this.1; rw [List.nil_append] at h1; exact h1, this.2⟩ h
end Go.Proofs.YtoiiblkncbnlaaaGreat
