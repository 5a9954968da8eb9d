/-
  Texts that belong together, one behind the other; what each of them proves, and under which conditions, its own heading says.
-/
import Derived.Test.YtoiiblkncbnlaaaGreatRows
import Derived.Test.YtoiiblkncbnlaaaGreatVe
/-
  Go functions as partial functions, printed by auto.py: what each returns when its partial function has a value. Conditions: those of each theorem.
-/
namespace Go.Proofs.YtoiiblkncbnlaaaGreat
open Go.DL
set_option maxRecDepth 100000
set_option maxHeartbeats 4000000
set_option linter.unusedVariables false
set_option linter.unusedSimpArgs false
end Go.Proofs.YtoiiblkncbnlaaaGreat

/-
  Go functions as partial functions, printed by auto.py: what each returns when its partial function has a value. Conditions: those of each theorem.
-/
namespace Go.Proofs.YtoiiblkncbnlaaaGreat
open Go.DL
set_option maxRecDepth 100000
set_option maxHeartbeats 4000000
set_option linter.unusedVariables false
set_option linter.unusedSimpArgs false
theorem g_ref42_ones_ret {n_1 : Int} {r : List Int} (h : g_ref42_ones n_1 = some r) : Ret Tryz.prog 39 [(I n_1)] (.sl 1 (r.map elI)) := by
  refine Ret.of_T Tryz.func39 (by kernel_rfl) rfl ?_
  refine T_turn [] [0] [] (mk 15 [(0, (di n_1))] []) (by kernel_rfl) ?_
  refine T_reg [] [0] [] (mk 15 [(0, (di n_1))] []) _ (by kernel_rfl) (z2 zt) ?_
  refine T_reg [] [0, 3] [] (mk 15 [(0, (di n_1)), (3, (ow 5))] [(5, (.row 3 1 (([] : List Int).map elI)))]) _ (by kernel_rfl) (z1 (zc (show dfill (fun i => some (i * 1, 1)) (List.replicate (0 * 1) .junk) [] = some ((flat (([] : List Int).map elI)).map .dat) from rfl) (z2 zt))) ?_
  refine T_seqJ (α := List Int) (fun (l_2 : List Int) => (mk 15 [(3, (ow 5))] [(5, (.row 3 1 (l_2.map elI)))])) (fun (l_2 : List Int) => g_ref42_ones_j1 l_2 = some r) (fun l_2 h => ?_) ?_
  refine T_reg [] [2] [] (mk 15 [(2, (ow 5))] [(5, (.row 3 1 (l_2.map elI)))]) _ (by kernel_rfl) (z4 zt) ?_
  refine T_ret ?_
  obtain rfl := some_inv h
  exact ret_here [(ow 5)] (by kernel_rfl) rfl
  refine T_reg [] [0, 3, 4] [] (mk 15 [(0, (di n_1)), (3, (ow 5)), (4, (di 0))] [(5, (.row 3 1 (([] : List Int).map elI)))]) _ (by kernel_rfl) (z2 zt) ?_
  refine T_block ?_
  refine T_arr [] [0, 3, 4] [] [5] _ (by kernel_rfl) (T_loopO (σ := Nat × (List Int)) (fun ((i_3, l_4) : Nat × (List Int)) => (mk 15 [(0, (di n_1)), (3, (ow 5)), (4, (di ((i_3 : Nat) : Int)))] [(5, (.row 3 1 (l_4.map elI)))])) (g_ref42_ones_l2 n_1) (0, ([] : List Int)) h (fun v y1 hy1 h => ?_))
  obtain ⟨i_3, l_4⟩ := v
  refine T_seq ?_
  refine T_reg [] [0, 3, 4, 8] [] (mk 15 [(0, (di n_1)), (3, (ow 5)), (4, (di ((i_3 : Nat) : Int))), (8, (db (decide (((i_3 : Nat) : Int) < n_1))))] [(5, (.row 3 1 (l_4.map elI)))]) _ (by kernel_rfl) (z6 zt) ?_
  refine T_cond (decide (((i_3 : Nat) : Int) < n_1)) (by kernel_rfl) (fun b7 => ?_) (fun b7 => ?_)
  replace h := ite_t b7 h
  refine T_skip ?_
  refine T_seq ?_
  refine T_block ?_
  obtain ⟨c8, h⟩ := ck_inv h
  refine T_regE [zn, zn, (zd (.sl 1 ((l_4 ++ [(1 : Int)]).map elI)))] (mk 15 [(0, (di n_1)), (3, (ow 13)), (4, (di ((i_3 : Nat) : Int))), (8, (db (decide (((i_3 : Nat) : Int) < n_1)))), (12, (ow 12)), (13, (ow 13))] [(13, (.row 3 1 ((l_4 ++ [(1 : Int)]).map elI))), (12, (.row 3 1 ([(1 : Int)].map elI)))]) _ (by kernel_rfl) (z3 (zc (show dfill (fun i => some (i * 1, 1)) (List.replicate (1 * 1) .junk) [(0, [(.dat (I 1))])] = some ((flat ([(1 : Int)].map elI)).map .dat) from rfl) (z1 (zc (app_s elI elI_one l_4 ([(1 : Int)]) c8) (z2 zt))))) ?_
  obtain ⟨c9, h⟩ := ckI_inv h
  exact T_regJ [zn, (zd (I ((i_3 + 1 : Nat) : Int)))] [.ren 13 5] [0, 3, 4] [12] [5] _ _ (by kernel_rfl) (z3 (zc c9 (z2 zt))) (fun s hs => Exists.intro (i_3 + 1, (l_4 ++ [(1 : Int)])) (And.intro h hs))
  replace h := ite_f b7 h
  refine T_exit ?_
  replace h := up_inv h hy1
  exact Exists.intro l_4 (And.intro h (arr [] [3] [] [5] (by kernel_rfl)))

theorem g_ref42_Part_ret {s_1 : Sch} {rank_2 : Int} {r : Int} (h : g_ref42_Part s_1 rank_2 = some r) : Ret Tryz.prog 24 [(encSch s_1), (I rank_2)] (I r) := by
  refine Ret.of_T Tryz.func24 (by kernel_rfl) rfl ?_
  refine T_turn [] [0, 1] [] (mk 51 [(0, (.agg (qSch s_1))), (1, (di rank_2))] []) (by kernel_rfl) ?_
  refine T_reg [] [1, 2] [] (mk 51 [(1, (di rank_2)), (2, (rf 2 0))] [(2, (.var (qSch s_1)))]) _ (by kernel_rfl) (z4 zt) ?_
  refine T_seqJ (α := Unit) (fun (_ : Unit) => (mk 51 [] [])) (fun (_ : Unit) => g_ref42_Part_j1 = some r) (fun v h => ?_) ?_
  refine T_reg [] [4] [] (mk 51 [(4, (di 0))] []) _ (by kernel_rfl) (z2 zt) ?_
  refine T_ret ?_
  obtain rfl := some_inv h
  exact ret_here [(di 0)] (by kernel_rfl) (.inl rfl)
  refine T_reg [] [1, 2, 5] [] (mk 51 [(1, (di rank_2)), (2, (rf 2 0)), (5, (di 0))] [(2, (.var (qSch s_1)))]) _ (by kernel_rfl) (z2 zt) ?_
  refine T_block ?_
  refine T_arr [] [1, 2, 5] [] [2] _ (by kernel_rfl) (T_loopO (σ := Nat) (fun (i_3 : Nat) => (mk 51 [(1, (di rank_2)), (2, (rf 2 0)), (5, (di ((i_3 : Nat) : Int)))] [(2, (.var (qSch s_1)))])) (g_ref42_Part_l2 s_1 rank_2) 0 h (fun i_3 y1 hy1 h => ?_))
  refine T_seq ?_
  refine T_reg [zn, zn, zn, (zd (I ((s_1.p.length : Nat) : Int)))] [1, 2, 5, 13] [] (mk 51 [(1, (di rank_2)), (2, (rf 2 0)), (5, (di ((i_3 : Nat) : Int))), (13, (db (decide (((i_3 : Nat) : Int) < ((s_1.p.length : Nat) : Int)))))] [(2, (.var (qSch s_1)))]) _ (by kernel_rfl) (z7 (zc (len_s encPrize s_1.p) (z2 zt))) ?_
  refine T_cond (decide (((i_3 : Nat) : Int) < ((s_1.p.length : Nat) : Int))) (by kernel_rfl) (fun b5 => ?_) (fun b5 => ?_)
  replace h := ite_t b5 h
  refine T_skip ?_
  refine T_seq ?_
  refine T_block ?_
  obtain ⟨x_6, e7, e8, e9, h⟩ := gn_inv encPrize h
  refine T_reg [zn, zn, zn, (zd (encPrize x_6))] [1, 2, 5, 6] [] (mk 51 [(1, (di rank_2)), (2, (rf 2 0)), (5, (di ((i_3 : Nat) : Int))), (6, (rf 6 0))] [(6, (.var (qPrize x_6))), (2, (.var (qSch s_1)))]) _ (by kernel_rfl) (z7 (zc e7 (z6 zt))) ?_
  refine T_seqJ (α := Bool) (fun (v_10 : Bool) => (mk 51 [(1, (di rank_2)), (2, (rf 2 0)), (5, (di ((i_3 : Nat) : Int))), (6, (rf 6 0)), (30, (db (v_10)))] [(2, (.var (qSch s_1))), (6, (.var (qPrize x_6)))])) (fun (v_10 : Bool) => g_ref42_Part_j3 x_6 rank_2 i_3 s_1 v_10 = some y1) (fun v_10 h => ?_) ?_
  refine T_cond (v_10) (by kernel_rfl) (fun b11 => ?_) (fun b11 => ?_)
  replace h := ite_t b11 h
  obtain ⟨c12, h⟩ := ckI_inv h
  obtain ⟨c13, h⟩ := ckI_inv h
  obtain ⟨r_14, e15, h⟩ := bd_inv h
  obtain ⟨r_16, e17, h⟩ := bd_inv h
  refine T_regD 15 [zn, zn, zn, zn, zn, zn, (zd (I (x_6.t - x_6.f))), (zd (I ((x_6.t - x_6.f) + 1))), (zd (.sl 1 (r_14.map elI))), (zd (.tup [(.sl 1 (r_16.1.map elI)), (I r_16.2)]))] [1, 6, 7] [2] (mk 51 [(1, (di rank_2)), (6, (rf 6 0)), (7, (dt (.sl 1 (r_16.1.map elI))))] [(6, (.var (qPrize x_6)))]) _ (by kernel_rfl) (by kernel_rfl) (by kernel_rfl) (zc (z8 (z5 (zc c12 (z1 (zc c13 (z1 (zc (g_ref42_ones_ret e15) (z1 (zc (g_ref05_Split_ret e17) (z8 (z2 zt))))))))))) zt) ?_
  obtain ⟨c18, h⟩ := ckI_inv h
  obtain ⟨x_19, e20, e21, e22, h⟩ := gt_inv elI h
  refine T_reg [zn, zn, zn, zn, (zd (I (rank_2 - x_6.f))), (zd (I x_19))] [4] [6] (mk 51 [(4, (di x_19))] []) _ (by kernel_rfl) (z8 (z1 (zc c18 (z1 (zc e20 (z4 zt)))))) ?_
  refine T_ret ?_
  replace h := up_inv h hy1
  obtain rfl := some_inv h
  exact ret_here [(di x_19)] (by kernel_rfl) (.inl rfl)
  replace h := ite_f b11 h
  refine T_skip ?_
  obtain ⟨c23, h⟩ := ckI_inv h
  exact T_regJ [zn, (zd (I ((i_3 + 1 : Nat) : Int)))] [] [1, 2, 5] [6] [2] _ _ (by kernel_rfl) (z3 (zc c23 (z2 zt))) (fun s hs => Exists.intro (i_3 + 1) (And.intro h hs))
  rcases Bool.eq_false_or_eq_true (decide (x_6.f ≤ rank_2)) with b24 | b24
  replace h := ite_t b24 h
  exact T_regJ (hl 10 [(9, (zd (B true)))]) [] [1, 2, 5, 6, 30] [] [2, 6] _ _ (by kernel_rfl) (z8 (z2 (zc (gd_tt b24) (z1 (zc (gd_tt b24) (z1 (zc (gd_tt b24) (z1 (zc (gd_tt b24) (z2 (zc b24 zt))))))))))) (fun s hs => Exists.intro (decide (rank_2 ≤ x_6.t)) (And.intro h hs))
  replace h := ite_f b24 h
  exact T_regJ [zn, zn, zn, zn, zn, zg, zg, zg, zg, (zd (B false))] [] [1, 2, 5, 6, 30] [] [2, 6] _ _ (by kernel_rfl) (z8 (z2 (zc (gd_ft b24) (zc (gd_ft b24) (zc (gd_ft b24) (zc (gd_ft b24) (z1 (zc b24 zt)))))))) (fun s hs => Exists.intro false (And.intro h hs))
  replace h := ite_f b5 h
  refine T_exit ?_
  replace h := up_inv h hy1
  exact Exists.intro () (And.intro h (arr [] [] [2] [] (by kernel_rfl)))

end Go.Proofs.YtoiiblkncbnlaaaGreat

/-
  Go functions as partial functions, printed by auto.py: what each returns when its partial function has a value. Conditions: those of each theorem.
-/
namespace Go.Proofs.YtoiiblkncbnlaaaGreat
open Go.DL
set_option maxRecDepth 100000
set_option maxHeartbeats 4000000
set_option linter.unusedVariables false
set_option linter.unusedSimpArgs false
end Go.Proofs.YtoiiblkncbnlaaaGreat

/-
  Go functions as partial functions, printed by auto.py: what each returns when its partial function has a value. Conditions: those of each theorem.
-/
namespace Go.Proofs.YtoiiblkncbnlaaaGreat
open Go.DL
set_option maxRecDepth 100000
set_option maxHeartbeats 4000000
set_option linter.unusedVariables false
set_option linter.unusedSimpArgs false
theorem g_money_Check_ret {n_1 : Int} {r : Int} (h : g_money_Check n_1 = some r) : Ret Tryz.prog 54 [(I n_1)] (I r) := by
  refine Ret.of_T Tryz.func54 (by kernel_rfl) rfl ?_
  refine T_turn [] [0] [] (mk 9 [(0, (di n_1))] []) (by kernel_rfl) ?_
  refine T_reg [] [0] [] (mk 9 [(0, (di n_1))] []) _ (by kernel_rfl) (z2 zt) ?_
  refine T_seq ?_
  refine T_seqJ (α := Bool) (fun (v_2 : Bool) => (mk 9 [(8, (db (v_2)))] [])) (fun (v_2 : Bool) => g_money_Check_j1 v_2 = some r) (fun v_2 h => ?_) ?_
  refine T_cond (v_2) (by kernel_rfl) (fun b3 => ?_) (fun b3 => ?_)
  replace h := ite_t b3 h
  refine T_reg [] [2] [] (mk 9 [(2, (di 50))] []) _ (by kernel_rfl) (z2 zt) ?_
  refine T_ret ?_
  obtain rfl := some_inv h
  exact ret_here [(di 50)] (by kernel_rfl) (.inl rfl)
  replace h := ite_f b3 h
  refine T_skip ?_
  refine T_reg [] [2] [] (mk 9 [(2, (di 0))] []) _ (by kernel_rfl) (z2 zt) ?_
  refine T_ret ?_
  obtain rfl := some_inv h
  exact ret_here [(di 0)] (by kernel_rfl) (.inl rfl)
  rcases Bool.eq_false_or_eq_true (decide (n_1 > 1125899906842624)) with b4 | b4
  replace h := ite_t b4 h
  exact T_regJ [zn, zn, zn, zg, zg, (zd (B true))] [] [8] [] [] _ _ (by kernel_rfl) (z6 (zc (gd_tf b4) (zc (gd_tf b4) (z1 (zc b4 zt))))) (fun s hs => Exists.intro true (And.intro h hs))
  replace h := ite_f b4 h
  exact T_regJ (hl 6 [(5, (zd (B false)))]) [] [8] [] [] _ _ (by kernel_rfl) (z6 (zc (gd_ff b4) (z1 (zc (gd_ff b4) (z2 (zc b4 zt)))))) (fun s hs => Exists.intro (decide (n_1 < (-1125899906842624))) (And.intro h hs))

theorem g_money_Sum_ret {l_1 : List Int} {r : Int × Int} (h : g_money_Sum l_1 = some r) : Ret Tryz.prog 25 [(.sl 1 (l_1.map elI))] (.tup [(I r.1), (I r.2)]) := by
  refine Ret.of_T Tryz.func25 (by kernel_rfl) rfl ?_
  refine T_turn [] [0] [] (mk 27 [(0, (dt (.sl 1 (l_1.map elI))))] []) (by kernel_rfl) ?_
  refine T_reg [] [0, 2] [] (mk 27 [(0, (dt (.sl 1 (l_1.map elI)))), (2, (di 0))] []) _ (by kernel_rfl) (z4 zt) ?_
  refine T_seqJ (α := Int) (fun (n_2 : Int) => (mk 27 [(2, (di n_2))] [])) (fun (n_2 : Int) => g_money_Sum_j1 n_2 = some r) (fun n_2 h => ?_) ?_
  refine T_reg [] [2, 3] [] (mk 27 [(2, (di n_2)), (3, (di 0))] []) _ (by kernel_rfl) (z6 zt) ?_
  refine T_ret ?_
  obtain rfl := some_inv h
  exact ret_here [(di n_2), (di 0)] (by kernel_rfl) ⟨(.inl rfl), (.inl rfl), trivial⟩
  refine T_reg [zn, (zd (I ((l_1.length : Nat) : Int)))] [2, 6, 7, 8] [] (mk 27 [(2, (di 0)), (6, (dt (.sl 1 (l_1.map elI)))), (7, (di ((l_1.length : Nat) : Int))), (8, (di 0))] []) _ (by kernel_rfl) (z3 (zc (len_s elI l_1) (z2 zt))) ?_
  refine T_block ?_
  refine T_arr [] [2, 6, 7, 8] [] [] _ (by kernel_rfl) (T_loopO (σ := Int × Nat) (fun ((n_3, v_4) : Int × Nat) => (mk 27 [(2, (di n_3)), (6, (dt (.sl 1 (l_1.map elI)))), (7, (di ((l_1.length : Nat) : Int))), (8, (di ((v_4 : Nat) : Int)))] [])) (g_money_Sum_l2 l_1) (0, 0) h (fun v y1 hy1 h => ?_))
  obtain ⟨n_3, v_4⟩ := v
  refine T_reg [] [2, 6, 7, 8, 9] [] (mk 27 [(2, (di n_3)), (6, (dt (.sl 1 (l_1.map elI)))), (7, (di ((l_1.length : Nat) : Int))), (8, (di ((v_4 : Nat) : Int))), (9, (db (decide (((v_4 : Nat) : Int) < ((l_1.length : Nat) : Int)))))] []) _ (by kernel_rfl) (z2 zt) ?_
  refine T_seq ?_
  refine T_cond (decide (((v_4 : Nat) : Int) < ((l_1.length : Nat) : Int))) (by kernel_rfl) (fun b7 => ?_) (fun b7 => ?_)
  replace h := ite_t b7 h
  refine T_skip ?_
  refine T_seq ?_
  refine T_block ?_
  obtain ⟨x_8, e9, e10, e11, h⟩ := gn_inv elI h
  refine T_reg [(zd (I x_8))] [2, 5, 6, 7, 8] [] (mk 27 [(2, (di n_3)), (5, (di x_8)), (6, (dt (.sl 1 (l_1.map elI)))), (7, (di ((l_1.length : Nat) : Int))), (8, (di ((v_4 : Nat) : Int)))] []) _ (by kernel_rfl) (z1 (zc e9 (z4 zt))) ?_
  refine T_seq ?_
  refine T_seqJ (α := Bool) (fun (v_12 : Bool) => (mk 27 [(2, (di n_3)), (5, (di x_8)), (6, (dt (.sl 1 (l_1.map elI)))), (7, (di ((l_1.length : Nat) : Int))), (8, (di ((v_4 : Nat) : Int))), (21, (db (v_12)))] [])) (fun (v_12 : Bool) => g_money_Sum_j3 n_3 x_8 v_4 l_1 v_12 = some y1) (fun v_12 h => ?_) ?_
  refine T_cond (v_12) (by kernel_rfl) (fun b13 => ?_) (fun b13 => ?_)
  replace h := ite_t b13 h
  refine T_reg [] [2, 3] [] (mk 27 [(2, (di 0)), (3, (di 50))] []) _ (by kernel_rfl) (z4 zt) ?_
  refine T_ret ?_
  replace h := up_inv h hy1
  obtain rfl := some_inv h
  exact ret_here [(di 0), (di 50)] (by kernel_rfl) ⟨(.inl rfl), (.inl rfl), trivial⟩
  replace h := ite_f b13 h
  refine T_skip ?_
  obtain ⟨c14, h⟩ := ckI_inv h
  refine T_regE [zn, zn, (zd (I (n_3 + x_8)))] (mk 27 [(2, (di (n_3 + x_8))), (5, (di x_8)), (6, (dt (.sl 1 (l_1.map elI)))), (7, (di ((l_1.length : Nat) : Int))), (8, (di ((v_4 : Nat) : Int))), (21, (db (v_12))), (22, (di n_3)), (23, (di x_8)), (24, (di (n_3 + x_8)))] []) _ (by kernel_rfl) (z5 (zc c14 (z2 zt))) ?_
  obtain ⟨c15, h⟩ := ckI_inv h
  exact T_regJ [(zd (I ((v_4 + 1 : Nat) : Int)))] [] [2, 6, 7, 8] [] [] _ _ (by kernel_rfl) (z1 (zc c15 (z2 zt))) (fun s hs => Exists.intro ((n_3 + x_8), v_4 + 1) (And.intro h hs))
  obtain ⟨r_16, e17, h⟩ := bd_inv h
  rcases Bool.eq_false_or_eq_true (r_16 != 0) with b18 | b18
  replace h := ite_t b18 h
  exact T_regJ [zn, (zd (I r_16)), zn, zn, zg, zg, zg, zg, zg, (zd (B true))] [] [2, 5, 6, 7, 8, 21] [] [] _ _ (by kernel_rfl) (z3 (zc (g_money_Check_ret e17) (z4 (zc (gd_tf b18) (zc (gd_tf b18) (zc (gd_tf b18) (zc (gd_tf b18) (zc (gd_tf b18) (z1 (zc b18 zt)))))))))) (fun s hs => Exists.intro true (And.intro h hs))
  replace h := ite_f b18 h
  obtain ⟨c19, h⟩ := ckI_inv h
  obtain ⟨r_20, e21, h⟩ := bd_inv h
  exact T_regJ [zn, (zd (I r_16)), zn, zn, zn, zn, (zd (I (n_3 + x_8))), (zd (I r_20)), zn, (zd (B false))] [] [2, 5, 6, 7, 8, 21] [] [] _ _ (by kernel_rfl) (z3 (zc (g_money_Check_ret e17) (z4 (zc (gd_ff b18) (z1 (zc (gd_ff b18) (z1 (zc (gd_ff b18) (zc c19 (zc (gd_ff b18) (zc (g_money_Check_ret e21) (zc (gd_ff b18) (z2 (zc b18 zt)))))))))))))) (fun s hs => Exists.intro (r_20 != 0) (And.intro h hs))
  replace h := ite_f b7 h
  refine T_exit ?_
  replace h := up_inv h hy1
  exact Exists.intro n_3 (And.intro h (arr [] [2] [] [] (by kernel_rfl)))

theorem g_law42_PrizesSum_ret {t_1 : Tab} {s_2 : Sch} {r : Bool} (h : g_law42_PrizesSum t_1 s_2 = some r) : Ret Tryz.prog 8 [(encTab t_1), (encSch s_2)] (B (r)) := by
  refine Ret.of_T Tryz.func8 (by kernel_rfl) rfl ?_
  refine T_turn [] [0, 1] [] (mk 149 [(0, (.agg (qTab t_1))), (1, (.agg (qSch s_2)))] []) (by kernel_rfl) ?_
  refine T_reg [] [2, 3] [] (mk 149 [(2, (rf 2 0)), (3, (rf 3 0))] [(3, (.var (qSch s_2))), (2, (.var (qTab t_1)))]) _ (by kernel_rfl) (z6 zt) ?_
  refine T_seq ?_
  obtain ⟨r_3, e4, h⟩ := bd_inv h
  refine T_reg [(zd (B (r_3)))] [2, 3, 19] [] (mk 149 [(2, (rf 2 0)), (3, (rf 3 0)), (19, (db (!(r_3))))] [(3, (.var (qSch s_2))), (2, (.var (qTab t_1)))]) _ (by kernel_rfl) (z1 (zc (g_law42_sane_ret e4) (z2 zt))) ?_
  refine T_cond (!(r_3)) (by kernel_rfl) (fun b5 => ?_) (fun b5 => ?_)
  replace h := ite_t b5 h
  refine T_reg [] [4] [3, 2] (mk 149 [(4, (db false))] []) _ (by kernel_rfl) (z2 zt) ?_
  refine T_ret ?_
  obtain rfl := some_inv h
  exact ret_here [(db false)] (by kernel_rfl) (.inl rfl)
  replace h := ite_f b5 h
  refine T_skip ?_
  refine T_seq ?_
  obtain ⟨r_6, e7, h⟩ := bd_inv h
  obtain ⟨r_8, e9, h⟩ := bd_inv h
  refine T_reg [zn, zn, (zd (.tup [(.sl 3 (r_6.1.map encTab)), (.sl 6 (r_6.2.map encSch))])), zn, zn, (zd (B (r_8)))] [2, 3, 26] [] (mk 149 [(2, (rf 2 0)), (3, (rf 3 0)), (26, (db (!(r_8))))] [(3, (.var (qSch s_2))), (2, (.var (qTab t_1)))]) _ (by kernel_rfl) (z5 (zc (g_law42_one_ret e7) (z5 (zc (g_ref42_Few_ret e9) (z2 zt))))) ?_
  refine T_cond (!(r_8)) (by kernel_rfl) (fun b10 => ?_) (fun b10 => ?_)
  replace h := ite_t b10 h
  refine T_reg [] [4] [3, 2] (mk 149 [(4, (db true))] []) _ (by kernel_rfl) (z2 zt) ?_
  refine T_ret ?_
  obtain rfl := some_inv h
  exact ret_here [(db true)] (by kernel_rfl) (.inl rfl)
  replace h := ite_f b10 h
  refine T_skip ?_
  obtain ⟨r_11, e12, h⟩ := bd_inv h
  refine T_reg [zn, zn, (zd (.tup [(.sl 2 (r_11.1.map encPay)), (I r_11.2)]))] [2, 3, 5, 6] [] (mk 149 [(2, (rf 2 0)), (3, (rf 3 0)), (5, (dt (.sl 2 (r_11.1.map encPay)))), (6, (di r_11.2))] [(3, (.var (qSch s_2))), (2, (.var (qTab t_1)))]) _ (by kernel_rfl) (z5 (zc (g_prizes_Prizes_ret e12) (z8 (z2 zt)))) ?_
  refine T_seq ?_
  refine T_reg [] [2, 3, 5, 34] [] (mk 149 [(2, (rf 2 0)), (3, (rf 3 0)), (5, (dt (.sl 2 (r_11.1.map encPay)))), (34, (db (r_11.2 != 0)))] [(3, (.var (qSch s_2))), (2, (.var (qTab t_1)))]) _ (by kernel_rfl) (z4 zt) ?_
  refine T_cond (r_11.2 != 0) (by kernel_rfl) (fun b13 => ?_) (fun b13 => ?_)
  replace h := ite_t b13 h
  refine T_reg [zn, (zd (I ((r_11.1.length : Nat) : Int)))] [4] [3, 2] (mk 149 [(4, (db (((r_11.1.length : Nat) : Int) == 0)))] []) _ (by kernel_rfl) (z3 (zc (len_s encPay r_11.1) (z4 zt))) ?_
  refine T_ret ?_
  obtain rfl := some_inv h
  exact ret_here [(db (((r_11.1.length : Nat) : Int) == 0))] (by kernel_rfl) (.inl rfl)
  replace h := ite_f b13 h
  refine T_skip ?_
  refine T_reg [] [2, 3, 5, 7] [] (mk 149 [(2, (rf 2 0)), (3, (rf 3 0)), (5, (dt (.sl 2 (r_11.1.map encPay)))), (7, (ow 38))] [(38, (.row 3 1 (([] : List Int).map elI))), (3, (.var (qSch s_2))), (2, (.var (qTab t_1)))]) _ (by kernel_rfl) (z1 (zc (show dfill (fun i => some (i * 1, 1)) (List.replicate (0 * 1) .junk) [] = some ((flat (([] : List Int).map elI)).map .dat) from rfl) (z2 zt))) ?_
  refine T_seqJ (α := List Int) (fun (l_14 : List Int) => (mk 149 [(2, (rf 2 0)), (3, (rf 3 0)), (7, (ow 38))] [(2, (.var (qTab t_1))), (3, (.var (qSch s_2))), (38, (.row 3 1 (l_14.map elI)))])) (fun (l_14 : List Int) => g_law42_PrizesSum_j1 s_2 t_1 l_14 = some r) (fun l_14 h => ?_) ?_
  refine T_reg [] [2, 3, 7, 9] [] (mk 149 [(2, (rf 2 0)), (3, (rf 3 0)), (7, (ow 38)), (9, (ow 77))] [(77, (.row 3 1 (([] : List Int).map elI))), (2, (.var (qTab t_1))), (3, (.var (qSch s_2))), (38, (.row 3 1 (l_14.map elI)))]) _ (by kernel_rfl) (z1 (zc (show dfill (fun i => some (i * 1, 1)) (List.replicate (0 * 1) .junk) [] = some ((flat (([] : List Int).map elI)).map .dat) from rfl) (z2 zt))) ?_
  refine T_reg [] [2, 3, 7, 9, 10] [] (mk 149 [(2, (rf 2 0)), (3, (rf 3 0)), (7, (ow 38)), (9, (ow 77)), (10, (db true))] [(77, (.row 3 1 (([] : List Int).map elI))), (2, (.var (qTab t_1))), (3, (.var (qSch s_2))), (38, (.row 3 1 (l_14.map elI)))]) _ (by kernel_rfl) (z2 zt) ?_
  refine T_reg [] [2, 3, 7, 9, 10, 11] [] (mk 149 [(2, (rf 2 0)), (3, (rf 3 0)), (7, (ow 38)), (9, (ow 77)), (10, (db true)), (11, (di 0))] [(77, (.row 3 1 (([] : List Int).map elI))), (2, (.var (qTab t_1))), (3, (.var (qSch s_2))), (38, (.row 3 1 (l_14.map elI)))]) _ (by kernel_rfl) (z2 zt) ?_
  refine T_seqJ (α := Bool × (List Int)) (fun ((within_15, l_16) : Bool × (List Int)) => (mk 149 [(2, (rf 2 0)), (3, (rf 3 0)), (7, (ow 38)), (9, (ow 77)), (10, (db (within_15))), (11, (di 0))] [(2, (.var (qTab t_1))), (3, (.var (qSch s_2))), (38, (.row 3 1 (l_14.map elI))), (77, (.row 3 1 (l_16.map elI)))])) (fun ((within_15, l_16) : Bool × (List Int)) => g_law42_PrizesSum_j2 t_1 s_2 l_14 within_15 l_16 = some r) (fun v h => ?_) ?_
  obtain ⟨within_15, l_16⟩ := v
  refine T_seqJ (α := Int) (fun (parts_17 : Int) => (mk 149 [(7, (ow 38)), (9, (ow 77)), (10, (db (within_15))), (11, (di parts_17))] [(38, (.row 3 1 (l_14.map elI))), (77, (.row 3 1 (l_16.map elI)))])) (fun (parts_17 : Int) => g_law42_PrizesSum_j3 l_14 l_16 within_15 parts_17 = some r) (fun parts_17 h => ?_) ?_
  obtain ⟨r_18, e19, h⟩ := bd_inv h
  refine T_reg [zn, (zd (.tup [(I r_18.1), (I r_18.2)]))] [9, 10, 11, 14, 15] [38] (mk 149 [(9, (ow 77)), (10, (db (within_15))), (11, (di parts_17)), (14, (di r_18.1)), (15, (di r_18.2))] [(77, (.row 3 1 (l_16.map elI)))]) _ (by kernel_rfl) (z3 (zc (g_money_Sum_ret e19) (z8 (z2 zt)))) ?_
  obtain ⟨r_20, e21, h⟩ := bd_inv h
  refine T_reg [zn, (zd (.tup [(I r_20.1), (I r_20.2)]))] [10, 11, 14, 15, 16, 17] [77] (mk 149 [(10, (db (within_15))), (11, (di parts_17)), (14, (di r_18.1)), (15, (di r_18.2)), (16, (di r_20.1)), (17, (di r_20.2))] []) _ (by kernel_rfl) (z3 (zc (g_money_Sum_ret e21) (z8 (z2 zt)))) ?_
  rcases Bool.eq_false_or_eq_true (r_18.2 == 0) with b22 | b22
  replace h := ite_t b22 h
  rcases Bool.eq_false_or_eq_true (r_20.2 == 0) with b23 | b23
  replace h := ite_t b23 h
  rcases Bool.eq_false_or_eq_true (r_18.1 == parts_17) with b24 | b24
  replace h := ite_t b24 h
  rcases Bool.eq_false_or_eq_true (!(within_15)) with b25 | b25
  replace h := ite_t b25 h
  refine T_reg (hl 20 [(5, (zd (B true))), (10, (zd (B true))), (15, zg), (16, zg), (17, zg), (18, (zd (B true))), (19, (zd (B true)))]) [4] [] (mk 149 [(4, (db true))] []) _ (by kernel_rfl) (z6 (zc (gd_tt b22) (z1 (zc (gd_tt b22) (z2 (zc b22 (z2 (zc (gd_tt b23) (z1 (zc (gd_tt b23) (z1 (zc (gd_tt b23) (z2 (zc b23 (z2 (zc (gd_tt b24) (z1 (zc (gd_tt b24) (z1 (zc (gd_tt b24) (z1 (zc (gd_tf b25) (zc (gd_tf b25) (zc (gd_tf b25) (zc (gd_tt b24) (zc b25 (z1 (zc b24 (z2 zt))))))))))))))))))))))))))))) ?_
  refine T_ret ?_
  obtain rfl := some_inv h
  exact ret_here [(db true)] (by kernel_rfl) (.inl rfl)
  replace h := ite_f b25 h
  refine T_reg (hl 20 [(5, (zd (B true))), (10, (zd (B true))), (18, (zd (B false))), (19, (zd (B true)))]) [4] [] (mk 149 [(4, (db (r_18.1 == r_20.1)))] []) _ (by kernel_rfl) (z6 (zc (gd_tt b22) (z1 (zc (gd_tt b22) (z2 (zc b22 (z2 (zc (gd_tt b23) (z1 (zc (gd_tt b23) (z1 (zc (gd_tt b23) (z2 (zc b23 (z2 (zc (gd_tt b24) (z1 (zc (gd_tt b24) (z1 (zc (gd_tt b24) (z1 (zc (gd_ff b25) (z1 (zc (gd_ff b25) (z1 (zc (gd_ff b25) (z1 (zc (gd_tt b24) (zc b25 (z1 (zc b24 (z2 zt)))))))))))))))))))))))))))))))) ?_
  refine T_ret ?_
  obtain rfl := some_inv h
  exact ret_here [(db (r_18.1 == r_20.1))] (by kernel_rfl) (.inl rfl)
  replace h := ite_f b24 h
  refine T_reg (hl 20 [(5, (zd (B true))), (10, (zd (B true))), (12, zg), (13, zg), (14, zg), (18, zg), (19, (zd (B false)))]) [4] [] (mk 149 [(4, (db false))] []) _ (by kernel_rfl) (z6 (zc (gd_tt b22) (z1 (zc (gd_tt b22) (z2 (zc b22 (z2 (zc (gd_tt b23) (z1 (zc (gd_tt b23) (z1 (zc (gd_tt b23) (z2 (zc b23 (z2 (zc (gd_ft b24) (zc (gd_ft b24) (zc (gd_ft b24) (z3 (zc (gd_ft b24) (z1 (zc b24 (z2 zt))))))))))))))))))))))) ?_
  refine T_ret ?_
  obtain rfl := some_inv h
  exact ret_here [(db false)] (by kernel_rfl) (.inl rfl)
  replace h := ite_f b23 h
  refine T_reg [zn, zn, zn, zn, zn, (zd (B true)), zn, zg, zg, zg, (zd (B false)), zn, zg, zg, zg, zn, zn, zn, zg, (zd (B false))] [4] [] (mk 149 [(4, (db false))] []) _ (by kernel_rfl) (z6 (zc (gd_tt b22) (z1 (zc (gd_tt b22) (z2 (zc b22 (z2 (zc (gd_ft b23) (zc (gd_ft b23) (zc (gd_ft b23) (z1 (zc b23 (z2 (zc (gd_ft (rfl : false = false)) (zc (gd_ft (rfl : false = false)) (zc (gd_ft (rfl : false = false)) (z3 (zc (gd_ft (rfl : false = false)) (z1 (zc (rfl : false = false) (z2 zt))))))))))))))))))))) ?_
  refine T_ret ?_
  obtain rfl := some_inv h
  exact ret_here [(db false)] (by kernel_rfl) (.inl rfl)
  replace h := ite_f b22 h
  refine T_reg [zn, zn, zn, zg, zg, (zd (B false)), zn, zg, zg, zg, (zd (B false)), zn, zg, zg, zg, zn, zn, zn, zg, (zd (B false))] [4] [] (mk 149 [(4, (db false))] []) _ (by kernel_rfl) (z6 (zc (gd_ft b22) (zc (gd_ft b22) (z1 (zc b22 (z2 (zc (gd_ft (rfl : false = false)) (zc (gd_ft (rfl : false = false)) (zc (gd_ft (rfl : false = false)) (z1 (zc (rfl : false = false) (z2 (zc (gd_ft (rfl : false = false)) (zc (gd_ft (rfl : false = false)) (zc (gd_ft (rfl : false = false)) (z3 (zc (gd_ft (rfl : false = false)) (z1 (zc (rfl : false = false) (z2 zt)))))))))))))))))))) ?_
  refine T_ret ?_
  obtain rfl := some_inv h
  exact ret_here [(db false)] (by kernel_rfl) (.inl rfl)
  refine T_reg [] [2, 3, 7, 9, 10, 11, 13] [] (mk 149 [(2, (rf 2 0)), (3, (rf 3 0)), (7, (ow 38)), (9, (ow 77)), (10, (db (within_15))), (11, (di 0)), (13, (di 1))] [(2, (.var (qTab t_1))), (3, (.var (qSch s_2))), (38, (.row 3 1 (l_14.map elI))), (77, (.row 3 1 (l_16.map elI)))]) _ (by kernel_rfl) (z2 zt) ?_
  refine T_block ?_
  refine T_arr [] [2, 3, 7, 9, 10, 11, 13] [] [2, 3, 38, 77] _ (by kernel_rfl) (T_loopO (σ := Int × Nat) (fun ((parts_26, r_27) : Int × Nat) => (mk 149 [(2, (rf 2 0)), (3, (rf 3 0)), (7, (ow 38)), (9, (ow 77)), (10, (db (within_15))), (11, (di parts_26)), (13, (di ((r_27 : Nat) : Int)))] [(2, (.var (qTab t_1))), (3, (.var (qSch s_2))), (38, (.row 3 1 (l_14.map elI))), (77, (.row 3 1 (l_16.map elI)))])) (g_law42_PrizesSum_l4 t_1 s_2 l_14 l_16 within_15) (0, 1) h (fun v y1 hy1 h => ?_))
  obtain ⟨parts_26, r_27⟩ := v
  refine T_seq ?_
  refine T_reg [zn, zn, zn, (zd (I ((t_1.l.length : Nat) : Int)))] [2, 3, 7, 9, 10, 11, 13, 111] [] (mk 149 [(2, (rf 2 0)), (3, (rf 3 0)), (7, (ow 38)), (9, (ow 77)), (10, (db (within_15))), (11, (di parts_26)), (13, (di ((r_27 : Nat) : Int))), (111, (db (decide (((r_27 : Nat) : Int) ≤ ((t_1.l.length : Nat) : Int)))))] [(2, (.var (qTab t_1))), (3, (.var (qSch s_2))), (38, (.row 3 1 (l_14.map elI))), (77, (.row 3 1 (l_16.map elI)))]) _ (by kernel_rfl) (z7 (zc (len_s encPlace t_1.l) (z2 zt))) ?_
  refine T_cond (decide (((r_27 : Nat) : Int) ≤ ((t_1.l.length : Nat) : Int))) (by kernel_rfl) (fun b30 => ?_) (fun b30 => ?_)
  replace h := ite_t b30 h
  refine T_skip ?_
  refine T_seq ?_
  refine T_block ?_
  obtain ⟨r_31, e32, h⟩ := bd_inv h
  obtain ⟨c33, h⟩ := ckI_inv h
  refine T_regE [zn, zn, zn, (zd (I r_31)), (zd (I (parts_26 + r_31)))] (mk 149 [(2, (rf 2 0)), (3, (rf 3 0)), (7, (ow 38)), (9, (ow 77)), (10, (db (within_15))), (11, (di (parts_26 + r_31))), (13, (di ((r_27 : Nat) : Int))), (111, (db (decide (((r_27 : Nat) : Int) ≤ ((t_1.l.length : Nat) : Int))))), (114, (di parts_26)), (115, (.agg (qSch s_2))), (116, (di ((r_27 : Nat) : Int))), (117, (di r_31)), (118, (di (parts_26 + r_31)))] [(2, (.var (qTab t_1))), (3, (.var (qSch s_2))), (38, (.row 3 1 (l_14.map elI))), (77, (.row 3 1 (l_16.map elI)))]) _ (by kernel_rfl) (z7 (zc (g_ref42_Part_ret e32) (z1 (zc c33 (z2 zt))))) ?_
  obtain ⟨c34, h⟩ := ckI_inv h
  exact T_regJ [zn, (zd (I ((r_27 + 1 : Nat) : Int)))] [] [2, 3, 7, 9, 10, 11, 13] [] [2, 3, 38, 77] _ _ (by kernel_rfl) (z3 (zc c34 (z2 zt))) (fun s hs => Exists.intro ((parts_26 + r_31), r_27 + 1) (And.intro h hs))
  replace h := ite_f b30 h
  refine T_exit ?_
  replace h := up_inv h hy1
  exact Exists.intro parts_26 (And.intro h (arr [] [7, 9, 10, 11] [2, 3] [38, 77] (by kernel_rfl)))
  refine T_reg [] [2, 3, 7, 9, 10, 11, 12] [] (mk 149 [(2, (rf 2 0)), (3, (rf 3 0)), (7, (ow 38)), (9, (ow 77)), (10, (db true)), (11, (di 0)), (12, (di 0))] [(77, (.row 3 1 (([] : List Int).map elI))), (2, (.var (qTab t_1))), (3, (.var (qSch s_2))), (38, (.row 3 1 (l_14.map elI)))]) _ (by kernel_rfl) (z2 zt) ?_
  refine T_block ?_
  refine T_arr [] [2, 3, 7, 9, 10, 11, 12] [] [2, 3, 38, 77] _ (by kernel_rfl) (T_loopO (σ := Bool × Nat × (List Int)) (fun ((within_35, i_36, l_37) : Bool × Nat × (List Int)) => (mk 149 [(2, (rf 2 0)), (3, (rf 3 0)), (7, (ow 38)), (9, (ow 77)), (10, (db (within_35))), (11, (di 0)), (12, (di ((i_36 : Nat) : Int)))] [(2, (.var (qTab t_1))), (3, (.var (qSch s_2))), (38, (.row 3 1 (l_14.map elI))), (77, (.row 3 1 (l_37.map elI)))])) (g_law42_PrizesSum_l5 s_2 t_1 l_14) (true, 0, ([] : List Int)) h (fun v y1 hy1 h => ?_))
  obtain ⟨within_35, i_36, l_37⟩ := v
  refine T_seq ?_
  refine T_reg [zn, zn, zn, (zd (I ((s_2.p.length : Nat) : Int)))] [2, 3, 7, 9, 10, 11, 12, 82] [] (mk 149 [(2, (rf 2 0)), (3, (rf 3 0)), (7, (ow 38)), (9, (ow 77)), (10, (db (within_35))), (11, (di 0)), (12, (di ((i_36 : Nat) : Int))), (82, (db (decide (((i_36 : Nat) : Int) < ((s_2.p.length : Nat) : Int)))))] [(2, (.var (qTab t_1))), (3, (.var (qSch s_2))), (38, (.row 3 1 (l_14.map elI))), (77, (.row 3 1 (l_37.map elI)))]) _ (by kernel_rfl) (z7 (zc (len_s encPrize s_2.p) (z2 zt))) ?_
  refine T_cond (decide (((i_36 : Nat) : Int) < ((s_2.p.length : Nat) : Int))) (by kernel_rfl) (fun b41 => ?_) (fun b41 => ?_)
  replace h := ite_t b41 h
  refine T_skip ?_
  refine T_seqJ (α := Bool × (List Int)) (fun ((within_42, l_43) : Bool × (List Int)) => (mk 149 [(2, (rf 2 0)), (3, (rf 3 0)), (7, (ow 38)), (9, (ow 93)), (10, (db (within_42))), (11, (di 0)), (12, (di ((i_36 : Nat) : Int)))] [(2, (.var (qTab t_1))), (3, (.var (qSch s_2))), (38, (.row 3 1 (l_14.map elI))), (93, (.row 3 1 (l_43.map elI)))])) (fun ((within_42, l_43) : Bool × (List Int)) => g_law42_PrizesSum_j6 i_36 t_1 s_2 l_14 within_42 l_43 = some y1) (fun v h => ?_) ?_
  obtain ⟨within_42, l_43⟩ := v
  obtain ⟨c44, h⟩ := ckI_inv h
  exact T_regJ [zn, (zd (I ((i_36 + 1 : Nat) : Int)))] [.ren 93 77] [2, 3, 7, 9, 10, 11, 12] [] [2, 3, 38, 77] _ _ (by kernel_rfl) (z3 (zc c44 (z2 zt))) (fun s hs => Exists.intro ((within_42), i_36 + 1, l_43) (And.intro h hs))
  refine T_block ?_
  obtain ⟨x_45, e46, e47, e48, h⟩ := gn_inv encPrize h
  obtain ⟨c49, h⟩ := ck_inv h
  refine T_reg (hl 9 [(4, (zd (encPrize x_45))), (8, (zd (.sl 1 ((l_37 ++ [x_45.a]).map elI))))]) [2, 3, 7, 9, 10, 11, 12] [92] (mk 149 [(2, (rf 2 0)), (3, (rf 3 0)), (7, (ow 38)), (9, (ow 93)), (10, (db (within_35))), (11, (di 0)), (12, (di ((i_36 : Nat) : Int)))] [(93, (.row 3 1 ((l_37 ++ [x_45.a]).map elI))), (2, (.var (qTab t_1))), (3, (.var (qSch s_2))), (38, (.row 3 1 (l_14.map elI)))]) _ (by kernel_rfl) (z8 (z1 (zc e46 (z5 (zc (show dfill (fun i => some (i * 1, 1)) (List.replicate (1 * 1) .junk) [(0, [(.dat (I x_45.a))])] = some ((flat ([x_45.a].map elI)).map .dat) from rfl) (z1 (zc (app_s elI elI_one l_37 ([x_45.a]) c49) (z2 zt)))))))) ?_
  rcases Bool.eq_false_or_eq_true (within_35) with b50 | b50
  replace h := ite_t b50 h
  exact T_regJD 14 (hl 13 [(5, (zd (encPrize x_45))), (10, (zd (I ((t_1.l.length : Nat) : Int)))), (12, (zd (B true)))]) [] [2, 3, 7, 9, 10, 11, 12] [] [2, 3, 38, 93] _ _ (by kernel_rfl) (by kernel_rfl) (by kernel_rfl) (zc (z4 (zc (gd_tt b50) (z1 (zc (gd_tt b50) (z1 (zc (gd_tt b50) (z1 (zc (gd_tt b50) (zc e46 (zc (gd_tt b50) (z1 (zc (gd_tt b50) (z1 (zc (gd_tt b50) (z1 (zc (gd_tt b50) (z1 (zc (gd_tt b50) (zc (len_s encPlace t_1.l) (zc (gd_tt b50) (z2 (zc b50 (z2 zt))))))))))))))))))))))) zt) (fun s hs => Exists.intro ((decide (x_45.t ≤ ((t_1.l.length : Nat) : Int))), (l_37 ++ [x_45.a])) (And.intro h hs))
  replace h := ite_f b50 h
  exact T_regJD 14 [zn, zn, zg, zg, zg, zg, zg, zg, zg, zg, zg, zg, (zd (B false))] [] [2, 3, 7, 9, 10, 11, 12] [] [2, 3, 38, 93] _ _ (by kernel_rfl) (by kernel_rfl) (by kernel_rfl) (zc (z4 (zc (gd_ft b50) (zc (gd_ft b50) (zc (gd_ft b50) (zc (gd_ft b50) (zc (gd_ft b50) (zc (gd_ft b50) (zc (gd_ft b50) (zc (gd_ft b50) (zc (gd_ft b50) (zc (gd_ft b50) (z1 (zc b50 (z2 zt)))))))))))))) zt) (fun s hs => Exists.intro (false, (l_37 ++ [x_45.a])) (And.intro h hs))
  replace h := ite_f b41 h
  refine T_exit ?_
  replace h := up_inv h hy1
  exact Exists.intro ((within_35), l_37) (And.intro h (arr [] [2, 3, 7, 9, 10, 11] [] [2, 3, 38, 77] (by kernel_rfl)))
  refine T_reg [] [2, 3, 5, 7, 8] [] (mk 149 [(2, (rf 2 0)), (3, (rf 3 0)), (5, (dt (.sl 2 (r_11.1.map encPay)))), (7, (ow 38)), (8, (di 0))] [(38, (.row 3 1 (([] : List Int).map elI))), (3, (.var (qSch s_2))), (2, (.var (qTab t_1)))]) _ (by kernel_rfl) (z2 zt) ?_
  refine T_block ?_
  refine T_arr [] [2, 3, 5, 7, 8] [] [2, 3, 38] _ (by kernel_rfl) (T_loopO (σ := Nat × (List Int)) (fun ((i_51, l_52) : Nat × (List Int)) => (mk 149 [(2, (rf 2 0)), (3, (rf 3 0)), (5, (dt (.sl 2 (r_11.1.map encPay)))), (7, (ow 38)), (8, (di ((i_51 : Nat) : Int)))] [(2, (.var (qTab t_1))), (3, (.var (qSch s_2))), (38, (.row 3 1 (l_52.map elI)))])) (g_law42_PrizesSum_l7 r_11 t_1 s_2) (0, ([] : List Int)) h (fun v y1 hy1 h => ?_))
  obtain ⟨i_51, l_52⟩ := v
  refine T_seq ?_
  refine T_reg [zn, zn, (zd (I ((r_11.1.length : Nat) : Int)))] [2, 3, 5, 7, 8, 42] [] (mk 149 [(2, (rf 2 0)), (3, (rf 3 0)), (5, (dt (.sl 2 (r_11.1.map encPay)))), (7, (ow 38)), (8, (di ((i_51 : Nat) : Int))), (42, (db (decide (((i_51 : Nat) : Int) < ((r_11.1.length : Nat) : Int)))))] [(2, (.var (qTab t_1))), (3, (.var (qSch s_2))), (38, (.row 3 1 (l_52.map elI)))]) _ (by kernel_rfl) (z5 (zc (len_s encPay r_11.1) (z2 zt))) ?_
  refine T_cond (decide (((i_51 : Nat) : Int) < ((r_11.1.length : Nat) : Int))) (by kernel_rfl) (fun b55 => ?_) (fun b55 => ?_)
  replace h := ite_t b55 h
  refine T_skip ?_
  refine T_seq ?_
  refine T_block ?_
  refine T_seq ?_
  refine T_seqJ (α := Bool) (fun (v_56 : Bool) => (mk 149 [(2, (rf 2 0)), (3, (rf 3 0)), (5, (dt (.sl 2 (r_11.1.map encPay)))), (7, (ow 38)), (8, (di ((i_51 : Nat) : Int))), (68, (db (v_56)))] [(2, (.var (qTab t_1))), (3, (.var (qSch s_2))), (38, (.row 3 1 (l_52.map elI)))])) (fun (v_56 : Bool) => g_law42_PrizesSum_j8 r_11 i_51 l_52 t_1 s_2 v_56 = some y1) (fun v_56 h => ?_) ?_
  refine T_cond (v_56) (by kernel_rfl) (fun b57 => ?_) (fun b57 => ?_)
  replace h := ite_t b57 h
  refine T_reg [] [4] [2, 3, 38] (mk 149 [(4, (db false))] []) _ (by kernel_rfl) (z2 zt) ?_
  refine T_ret ?_
  replace h := up_inv h hy1
  obtain rfl := some_inv h
  exact ret_here [(db false)] (by kernel_rfl) (.inl rfl)
  replace h := ite_f b57 h
  refine T_skip ?_
  obtain ⟨x_58, e59, e60, e61, h⟩ := gn_inv encPay h
  obtain ⟨c62, h⟩ := ck_inv h
  refine T_regE (hl 8 [(3, (zd (encPay x_58))), (7, (zd (.sl 1 ((l_52 ++ [x_58.a]).map elI))))]) (mk 149 [(2, (rf 2 0)), (3, (rf 3 0)), (5, (dt (.sl 2 (r_11.1.map encPay)))), (7, (ow 76)), (8, (di ((i_51 : Nat) : Int))), (68, (db (v_56))), (70, (dt (.sl 2 (r_11.1.map encPay)))), (71, (di ((i_51 : Nat) : Int))), (72, (dt (.ptr [(I x_58.c), (I x_58.a)]))), (73, (dt (.ptr [(I x_58.a)]))), (74, (di x_58.a)), (75, (ow 75)), (76, (ow 76))] [(76, (.row 3 1 ((l_52 ++ [x_58.a]).map elI))), (75, (.row 3 1 ([x_58.a].map elI))), (2, (.var (qTab t_1))), (3, (.var (qSch s_2)))]) _ (by kernel_rfl) (z7 (zc e59 (z5 (zc (show dfill (fun i => some (i * 1, 1)) (List.replicate (1 * 1) .junk) [(0, [(.dat (I x_58.a))])] = some ((flat ([x_58.a].map elI)).map .dat) from rfl) (z1 (zc (app_s elI elI_one l_52 ([x_58.a]) c62) (z2 zt))))))) ?_
  obtain ⟨c63, h⟩ := ckI_inv h
  exact T_regJ [zn, (zd (I ((i_51 + 1 : Nat) : Int)))] [.ren 76 38] [2, 3, 5, 7, 8] [75] [2, 3, 38] _ _ (by kernel_rfl) (z3 (zc c63 (z2 zt))) (fun s hs => Exists.intro (i_51 + 1, (l_52 ++ [x_58.a])) (And.intro h hs))
  obtain ⟨x_64, e65, e66, e67, h⟩ := gn_inv encPay h
  rcases Bool.eq_false_or_eq_true (decide (x_64.a ≤ 0)) with b68 | b68
  replace h := ite_t b68 h
  exact T_regJD 24 (hl 24 [(2, (zd (encPay x_64))), (7, zg), (8, zg), (9, zg), (22, zg), (23, (zd (B true)))]) [] [2, 3, 5, 7, 8, 68] [] [2, 3, 38] _ _ (by kernel_rfl) (by kernel_rfl) (by kernel_rfl) (zc (z5 (zc e65 (z8 (zc (gd_tf b68) (zc (gd_tf b68) (zc (gd_tf b68) (z8 (z4 (zc (gd_tf b68) (z1 (zc b68 zt))))))))))) zt) (fun s hs => Exists.intro true (And.intro h hs))
  replace h := ite_f b68 h
  rcases Bool.eq_false_or_eq_true (decide (((i_51 : Nat) : Int) > 0)) with b69 | b69
  replace h := ite_t b69 h
  obtain ⟨c70, h⟩ := ckI_inv h
  obtain ⟨x_71, e72, e73, e74, h⟩ := gt_inv encPay h
  exact T_regJD 24 (hl 24 [(2, (zd (encPay x_64))), (12, (zd (I (((i_51 : Nat) : Int) - 1)))), (13, (zd (encPay x_71))), (18, (zd (encPay x_64))), (22, (zd (B true))), (23, (zd (B false)))]) [] [2, 3, 5, 7, 8, 68] [] [2, 3, 38] _ _ (by kernel_rfl) (by kernel_rfl) (by kernel_rfl) (zc (z5 (zc e65 (z8 (zc (gd_ff b68) (z1 (zc (gd_ff b68) (z1 (zc (gd_ff b68) (z1 (zc (gd_tt b69) (z1 (zc (gd_tt b69) (z1 (zc (gd_tt b69) (zc c70 (zc (gd_tt b69) (zc e72 (zc (gd_tt b69) (z1 (zc (gd_tt b69) (z1 (zc (gd_tt b69) (z1 (zc (gd_tt b69) (z1 (zc (gd_tt b69) (zc e65 (zc (gd_tt b69) (z1 (zc (gd_tt b69) (z1 (zc (gd_tt b69) (z1 (zc (gd_ff b68) (zc b69 (z1 (zc b68 zt))))))))))))))))))))))))))))))))))))) zt) (fun s hs => Exists.intro (decide (x_71.c ≥ x_64.c)) (And.intro h hs))
  replace h := ite_f b69 h
  exact T_regJD 24 [zn, zn, (zd (encPay x_64)), zn, zn, zn, zn, zn, zn, zn, zg, zg, zg, zg, zg, zg, zg, zg, zg, zg, zg, zg, (zd (B false)), (zd (B false))] [] [2, 3, 5, 7, 8, 68] [] [2, 3, 38] _ _ (by kernel_rfl) (by kernel_rfl) (by kernel_rfl) (zc (z5 (zc e65 (z8 (zc (gd_ff b68) (z1 (zc (gd_ff b68) (z1 (zc (gd_ff b68) (z1 (zc (gd_ft b69) (zc (gd_ft b69) (zc (gd_ft b69) (zc (gd_ft b69) (zc (gd_ft b69) (zc (gd_ft b69) (zc (gd_ft b69) (zc (gd_ft b69) (zc (gd_ft b69) (zc (gd_ft b69) (zc (gd_ft b69) (zc (gd_ft b69) (zc (gd_ff b68) (zc b69 (z1 (zc b68 zt))))))))))))))))))))))))) zt) (fun s hs => Exists.intro false (And.intro h hs))
  replace h := ite_f b55 h
  refine T_exit ?_
  replace h := up_inv h hy1
  exact Exists.intro l_52 (And.intro h (arr [] [2, 3, 7] [] [2, 3, 38] (by kernel_rfl)))

end Go.Proofs.YtoiiblkncbnlaaaGreat

/-
  PrizesSum returns true for every input and changes none of its arguments. No condition beside the row's own.
-/
namespace Go.Proofs.YtoiiblkncbnlaaaGreat
open Go.DL Go.ChangeShapes Go.WideShapes Go.ChangeAt Go.RowKit
set_option maxRecDepth 100000
set_option linter.unusedVariables false
set_option linter.unusedSimpArgs false
theorem sumLaw_lifted (os : Os) (started : os.Started) (H : Type) (enc : TypeId × Value → H) :
    ReturnsInHanded {} Tryz.checked os 8 .any (Rows.prizesSumSpec.pre6 enc Tryz.prog Tryz.f8 Rows.prizesSumRow.domain false) (Rows.prizesSumSpec.post enc Tryz.prog Tryz.f8 false true false false) := by
  refine returnsInHanded_of_change_sized (C := Tryz.checked) Tryz.own started (by kernel_rfl) Tryz.func8
    (ChangeSpec.witness6 (enc := enc) (C := Tryz.checked) false ⟨#[], #[.agg #[.int .i64 0, .int .i64 0, .slice none 0 0], .agg #[.int .i64 0, .slice none 0 0, .int .i64 0, .int .i64 0, .int .i64 0, .int .i64 0]], []⟩ 8 (by kernel_rfl) (by kernel_rfl) (by kernel_rfl) (by kernel_rfl)) ?_
  intro W base args ds gs before hval0 hW hcnd hwt0 _
  have hval : ∀ (j : Nat) t v, Tryz.f8.params[j]? = some t → args[j]? = some v → Value.okWide Tryz.prog W .any base t v := hval0
  have hwt : (DataW.weightsEach Tryz.prog (Tryz.f8.params.toList ++ Rows.prizesSumSpec.plain.varTypes Tryz.prog) (ds ++ gs)).all (· ≤ reachBytes) = true := hwt0
  clear hval0 hwt0
  have hW' := hW
  obtain ⟨p, q, hA0, hV, rfl, hfz, hnd⟩ := hW
  have hA : DataW.TrodAll enc Tryz.prog W 0 (fun _ => true) true Tryz.f8.params.toList args.toList ds p := hA0
  rw [Tryz.params8] at hA hval
  obtain ⟨v0, v1, d0, d1, p0, p1, rfl, rfl, rfl, h0, h1⟩ := trodAll_two hA
  obtain ⟨rfl, rfl⟩ := trodVars_none hV
  have hw : ∀ n ∈ DataW.weightsEach Tryz.prog [24, 27] [d0, d1], n ≤ reachBytes := by
    intro n hn
    have := List.all_eq_true.1 hwt n hn
    exact of_decide_eq_true this
  simp only [DataW.weightsEach, List.mem_append] at hw
  obtain ⟨x0, r0, g0⟩ := arg_agg d_24 h0 (hval 0 24 v0 rfl rfl) (by kernel_rfl)
  have k0 := g0 fun n hn => hw n (.inl hn)
  obtain ⟨x1, r1, g1⟩ := arg_agg d_27 h1 (hval 1 27 v1 rfl rfl) (by kernel_rfl)
  have k1 := g1 fun n hn => hw n (.inr (.inl hn))
  exact law_call hW' Tryz.laidOut (by intro t ht; rw [Tryz.params8] at ht; simp at ht; rcases ht with rfl | rfl <;> exact ⟨by kernel_rfl, of_decide_eq_true (by kernel_rfl)⟩) 4 (by kernel_rfl) und4 rfl rfl
    [_, _] rfl (fun j c hj => match j, hj with
      | 0, hj => by simp at hj; subst hj; exact ⟨v0, rfl, r0⟩
      | 1, hj => by simp at hj; subst hj; exact ⟨v1, rfl, r1⟩
      | j + 2, hj => by simp at hj) (g_law42_PrizesSum_ret (sumLaw_eq x0 x1))
theorem sumLaw_holds : Rows.PrizesSumSaid :=
  OpenClaim.holds_of_wide 8 Tryz.f8 rfl rfl rfl rfl rfl rfl rfl ⟨rfl, rfl, rfl, rfl, rfl⟩ rfl rfl rfl rfl rfl (by kernel_rfl) Tryz.func8 (by kernel_rfl)
    (of_decide_eq_true (by kernel_rfl)) (by unfold Func.isWrapper; first | (rw [if_pos (by decide +kernel)]; kernel_rfl) | (rw [if_neg (by decide +kernel)]; exact ⟨rfl, rfl⟩))
    (fun os started H enc _ => sumLaw_lifted os started H enc)
#print axioms sumLaw_holds
end Go.Proofs.YtoiiblkncbnlaaaGreat
