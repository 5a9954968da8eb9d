/-
  Texts that belong together, one behind the other; what each of them proves, and under which conditions, its own heading says.
-/
import Derived.Test.YtoiiblkncbnlaaaRows
import Derived.Test.YtoiiblkncbnlaaaMc
/-
  Go functions as partial functions, printed by auto.py: what each returns when its partial function has a value. Conditions: those of each theorem.
-/
namespace Go.Proofs.Ytoiiblkncbnlaaa
open Go.DL
set_option maxRecDepth 100000
set_option maxHeartbeats 4000000
set_option linter.unusedVariables false
set_option linter.unusedSimpArgs false
theorem g_law42_level_ret {comp_1 : Int} {clubs_2 : List Int} {r : Tab} (h : g_law42_level comp_1 clubs_2 = some r) : Ret Try.prog 8 [(I comp_1), (.sl 1 (clubs_2.map elI))] (encTab r) := by
  refine Ret.of_T Try.func8 (by kernel_rfl) rfl ?_
  refine T_turn [] [0, 1] [] (mk 27 [(0, (di comp_1)), (1, (dt (.sl 1 (clubs_2.map elI))))] []) (by kernel_rfl) ?_
  refine T_reg [] [0, 1, 4] [] (mk 27 [(0, (di comp_1)), (1, (dt (.sl 1 (clubs_2.map elI)))), (4, (rf 4 0))] [(4, (.var [(.dat (I 0)), (.dat (I 0)), (.dat nilS)]))]) _ (by kernel_rfl) (z2 zt) ?_
  refine T_reg [] [1, 4, 5] [] (mk 27 [(1, (dt (.sl 1 (clubs_2.map elI)))), (4, (rf 4 0)), (5, (rf 5 0))] [(5, (.var [(.dat (I 0)), (.dat (I comp_1)), (.dat nilS)])), (4, (.var [(.dat (I 0)), (.dat (I 0)), (.dat nilS)]))]) _ (by kernel_rfl) (z8 zt) ?_
  refine T_seqJ (α := List Place) (fun (l_3 : List Place) => (mk 27 [(4, (rf 4 0)), (5, (rf 5 0))] [(4, (.var [(.dat (I 0)), (.dat (I 0)), (.dat nilS)])), (5, (.var [(.dat (I 0)), (.dat (I comp_1)), (.own 24)])), (24, (.row 38 14 (l_3.map encPlace)))])) (fun (l_3 : List Place) => g_law42_level_j1 comp_1 l_3 = some r) (fun l_3 h => ?_) ?_
  refine T_reg [] [4] [5] (mk 27 [(4, (rf 4 0))] [(4, (.var [(.dat (I 0)), (.dat (I comp_1)), (.own 24)])), (24, (.row 38 14 (l_3.map encPlace)))]) _ (by kernel_rfl) (z4 zt) ?_
  refine T_ret ?_
  obtain rfl := some_inv h
  exact ret_here [(.agg [(.dat (I 0)), (.dat (I comp_1)), (.own 24)])] (by kernel_rfl) ⟨(.inl rfl), (.inl rfl), rfl, trivial⟩
  refine T_reg [] [1, 4, 5, 6] [] (mk 27 [(1, (dt (.sl 1 (clubs_2.map elI)))), (4, (rf 4 0)), (5, (rf 5 0)), (6, (di 0))] [(5, (.var [(.dat (I 0)), (.dat (I comp_1)), (.dat nilS)])), (4, (.var [(.dat (I 0)), (.dat (I 0)), (.dat nilS)]))]) _ (by kernel_rfl) (z2 zt) ?_
  refine T_block ?_
  refine T_arr [.ownC 5 2 24 38 14] [1, 4, 5, 6] [] [4, 5, 24] _ (by kernel_rfl) (T_loopO (σ := Nat × (List Place)) (fun ((i_4, l_5) : Nat × (List Place)) => (mk 27 [(1, (dt (.sl 1 (clubs_2.map elI)))), (4, (rf 4 0)), (5, (rf 5 0)), (6, (di ((i_4 : Nat) : Int)))] [(4, (.var [(.dat (I 0)), (.dat (I 0)), (.dat nilS)])), (5, (.var [(.dat (I 0)), (.dat (I comp_1)), (.own 24)])), (24, (.row 38 14 (l_5.map encPlace)))])) (g_law42_level_l2 clubs_2 comp_1) (0, ([] : List Place)) h (fun v y1 hy1 h => ?_))
  obtain ⟨i_4, l_5⟩ := v
  refine T_seq ?_
  refine T_reg [zn, zn, (zd (I ((clubs_2.length : Nat) : Int)))] [1, 4, 5, 6, 12] [] (mk 27 [(1, (dt (.sl 1 (clubs_2.map elI)))), (4, (rf 4 0)), (5, (rf 5 0)), (6, (di ((i_4 : Nat) : Int))), (12, (db (decide (((i_4 : Nat) : Int) < ((clubs_2.length : Nat) : Int)))))] [(4, (.var [(.dat (I 0)), (.dat (I 0)), (.dat nilS)])), (5, (.var [(.dat (I 0)), (.dat (I comp_1)), (.own 24)])), (24, (.row 38 14 (l_5.map encPlace)))]) _ (by kernel_rfl) (z5 (zc (len_s elI clubs_2) (z2 zt))) ?_
  refine T_cond (decide (((i_4 : Nat) : Int) < ((clubs_2.length : Nat) : Int))) (by kernel_rfl) (fun b8 => ?_) (fun b8 => ?_)
  replace h := ite_t b8 h
  refine T_skip ?_
  refine T_seq ?_
  refine T_block ?_
  obtain ⟨x_9, e10, e11, e12, h⟩ := gn_inv elI h
  obtain ⟨c13, h⟩ := ck_inv h
  refine T_regDE 9 (hl 10 [(4, (zd (I x_9))), (9, (zd (.sl 14 ((l_5 ++ [(⟨1, 0, ([] : List UInt8), (⟨x_9, 0, 0, 0, 0, 0, 0, 0, 0, 0, 0⟩ : Row)⟩ : Place)]).map encPlace))))]) (mk 27 [(1, (dt (.sl 1 (clubs_2.map elI)))), (4, (rf 4 0)), (5, (rf 5 0)), (6, (di ((i_4 : Nat) : Int))), (12, (db (decide (((i_4 : Nat) : Int) < ((clubs_2.length : Nat) : Int))))), (15, (rf 5 2)), (17, (dt (.sl 1 (clubs_2.map elI)))), (18, (di ((i_4 : Nat) : Int))), (19, (dt (.ptr [(I x_9)]))), (20, (di x_9)), (21, (.agg [(.dat (I x_9)), (.dat (I 0)), (.dat (I 0)), (.dat (I 0)), (.dat (I 0)), (.dat (I 0)), (.dat (I 0)), (.dat (I 0)), (.dat (I 0)), (.dat (I 0)), (.dat (I 0))])), (22, (.agg [(.dat (I 1)), (.dat (I 0)), (.dat (.str ([] : List UInt8))), (.dat (I x_9)), (.dat (I 0)), (.dat (I 0)), (.dat (I 0)), (.dat (I 0)), (.dat (I 0)), (.dat (I 0)), (.dat (I 0)), (.dat (I 0)), (.dat (I 0)), (.dat (I 0))])), (23, (dt (.sl 14 ([(⟨1, 0, ([] : List UInt8), (⟨x_9, 0, 0, 0, 0, 0, 0, 0, 0, 0, 0⟩ : Row)⟩ : Place)].map encPlace)))), (24, (ow 24)), (25, (rf 5 2))] [(24, (.row 38 14 ((l_5 ++ [(⟨1, 0, ([] : List UInt8), (⟨x_9, 0, 0, 0, 0, 0, 0, 0, 0, 0, 0⟩ : Row)⟩ : Place)]).map encPlace))), (4, (.var [(.dat (I 0)), (.dat (I 0)), (.dat nilS)])), (5, (.var [(.dat (I 0)), (.dat (I comp_1)), (.own 24)]))]) _ (by kernel_rfl) (by kernel_rfl) (by kernel_rfl) (zc (z8 (z1 (zc e10 (z7 (zc (show dfill (fun i => some (i * 14, 14)) (List.replicate (1 * 14) .junk) [(0, [(.dat (I 1)), (.dat (I 0)), (.dat (.str ([] : List UInt8))), (.dat (I x_9)), (.dat (I 0)), (.dat (I 0)), (.dat (I 0)), (.dat (I 0)), (.dat (I 0)), (.dat (I 0)), (.dat (I 0)), (.dat (I 0)), (.dat (I 0)), (.dat (I 0))])] = some ((flat ([(⟨1, 0, ([] : List UInt8), (⟨x_9, 0, 0, 0, 0, 0, 0, 0, 0, 0, 0⟩ : Row)⟩ : Place)].map encPlace)).map .dat) from rfl) zt))))) (z1 (zc (app_s encPlace encPlace_one l_5 ([(⟨1, 0, ([] : List UInt8), (⟨x_9, 0, 0, 0, 0, 0, 0, 0, 0, 0, 0⟩ : Row)⟩ : Place)]) c13) (z4 zt)))) ?_
  obtain ⟨c14, h⟩ := ckI_inv h
  exact T_regJ [zn, (zd (I ((i_4 + 1 : Nat) : Int)))] [] [1, 4, 5, 6] [] [4, 5, 24] _ _ (by kernel_rfl) (z3 (zc c14 (z2 zt))) (fun s hs => Exists.intro (i_4 + 1, (l_5 ++ [(⟨1, 0, ([] : List UInt8), (⟨x_9, 0, 0, 0, 0, 0, 0, 0, 0, 0, 0⟩ : Row)⟩ : Place)])) (And.intro h hs))
  replace h := ite_f b8 h
  refine T_exit ?_
  replace h := up_inv h hy1
  exact Exists.intro l_5 (And.intro h (arr [] [4, 5] [] [4, 5, 24] (by kernel_rfl)))

theorem g_table_within_ret {n_1 : Int} {least_2 : Int} {most_3 : Int} {r : Bool} (h : g_table_within n_1 least_2 most_3 = some r) : Ret Try.prog 31 [(I n_1), (I least_2), (I most_3)] (B (r)) := by
  refine Ret.of_T Try.func31 (by kernel_rfl) rfl ?_
  refine T_turn [] [0, 1, 2] [] (mk 15 [(0, (di n_1)), (1, (di least_2)), (2, (di most_3))] []) (by kernel_rfl) ?_
  refine T_reg [] [0, 1, 2] [] (mk 15 [(0, (di n_1)), (1, (di least_2)), (2, (di most_3))] []) _ (by kernel_rfl) (z2 zt) ?_
  rcases Bool.eq_false_or_eq_true (decide (n_1 ≥ least_2)) with b4 | b4
  replace h := ite_t b4 h
  refine T_reg (hl 8 [(7, (zd (B true)))]) [6] [] (mk 15 [(6, (db (decide (n_1 ≤ most_3))))] []) _ (by kernel_rfl) (z8 (zc (gd_tt b4) (z1 (zc (gd_tt b4) (z1 (zc (gd_tt b4) (z2 (zc b4 (z2 zt))))))))) ?_
  refine T_ret ?_
  obtain rfl := some_inv h
  exact ret_here [(db (decide (n_1 ≤ most_3)))] (by kernel_rfl) (.inl rfl)
  replace h := ite_f b4 h
  refine T_reg [zn, zn, zn, zn, zg, zg, zg, (zd (B false))] [6] [] (mk 15 [(6, (db false))] []) _ (by kernel_rfl) (z8 (zc (gd_ft b4) (zc (gd_ft b4) (zc (gd_ft b4) (z1 (zc b4 (z2 zt))))))) ?_
  refine T_ret ?_
  obtain rfl := some_inv h
  exact ret_here [(db false)] (by kernel_rfl) (.inl rfl)

theorem g_table_checkRow_ret {r_1 : Row} {r : Bool} (h : g_table_checkRow r_1 = some r) : Ret Try.prog 32 [(encRow r_1)] (B (r)) := by
  refine Ret.of_T Try.func32 (by kernel_rfl) rfl ?_
  refine T_turn [] [0] [] (mk 41 [(0, (.agg (qRow r_1)))] []) (by kernel_rfl) ?_
  refine T_reg [] [1] [] (mk 41 [(1, (rf 1 0))] [(1, (.var (qRow r_1)))]) _ (by kernel_rfl) (z4 zt) ?_
  refine T_seqJ (α := Unit) (fun (_ : Unit) => (mk 41 [(1, (rf 1 0))] [(1, (.var (qRow r_1)))])) (fun (_ : Unit) => g_table_checkRow_j1 r_1 = some r) (fun v h => ?_) ?_
  obtain ⟨r_2, e3, h⟩ := bd_inv h
  rcases Bool.eq_false_or_eq_true (r_2) with b4 | b4
  replace h := ite_t b4 h
  obtain ⟨r_5, e6, h⟩ := bd_inv h
  refine T_reg [zn, zn, (zd (B (r_2))), zn, zn, zn, (zd (B (r_5))), (zd (B true))] [2] [1] (mk 41 [(2, (db (r_5)))] []) _ (by kernel_rfl) (z5 (zc (g_table_within_ret e3) (z2 (zc (gd_tt b4) (z1 (zc (gd_tt b4) (z1 (zc (gd_tt b4) (zc (g_table_within_ret e6) (z1 (zc b4 (z2 zt)))))))))))) ?_
  refine T_ret ?_
  obtain rfl := some_inv h
  exact ret_here [(db (r_5))] (by kernel_rfl) (.inl rfl)
  replace h := ite_f b4 h
  refine T_reg [zn, zn, (zd (B (r_2))), zn, zg, zg, zg, (zd (B false))] [2] [1] (mk 41 [(2, (db false))] []) _ (by kernel_rfl) (z5 (zc (g_table_within_ret e3) (z2 (zc (gd_ft b4) (zc (gd_ft b4) (zc (gd_ft b4) (z1 (zc b4 (z2 zt))))))))) ?_
  refine T_ret ?_
  obtain rfl := some_inv h
  exact ret_here [(db false)] (by kernel_rfl) (.inl rfl)
  refine T_reg (hl 20 [(19, (zd (I ((([r_1.pl, r_1.wo, r_1.dr, r_1.lo, r_1.fo, r_1.ag, r_1.af, r_1.aw, r_1.ca]).length : Nat) : Int))))]) [1, 23, 24, 25] [] (mk 41 [(1, (rf 1 0)), (23, (ow 23)), (24, (di ((([r_1.pl, r_1.wo, r_1.dr, r_1.lo, r_1.fo, r_1.ag, r_1.af, r_1.aw, r_1.ca]).length : Nat) : Int))), (25, (di 0))] [(23, (.row 3 1 ([r_1.pl, r_1.wo, r_1.dr, r_1.lo, r_1.fo, r_1.ag, r_1.af, r_1.aw, r_1.ca].map elI))), (1, (.var (qRow r_1)))]) _ (by kernel_rfl) (z8 (z8 (z8 (z8 (z5 (zc (show dfill (fun i => some (i * 1, 1)) (List.replicate (9 * 1) .junk) [(0, [(.dat (I r_1.pl))]), (1, [(.dat (I r_1.wo))]), (2, [(.dat (I r_1.dr))]), (3, [(.dat (I r_1.lo))]), (4, [(.dat (I r_1.fo))]), (5, [(.dat (I r_1.ag))]), (6, [(.dat (I r_1.af))]), (7, [(.dat (I r_1.aw))]), (8, [(.dat (I r_1.ca))])] = some ((flat ([r_1.pl, r_1.wo, r_1.dr, r_1.lo, r_1.fo, r_1.ag, r_1.af, r_1.aw, r_1.ca].map elI)).map .dat) from rfl) (z1 (zc (len_s elI ([r_1.pl, r_1.wo, r_1.dr, r_1.lo, r_1.fo, r_1.ag, r_1.af, r_1.aw, r_1.ca])) (z2 zt))))))))) ?_
  refine T_block ?_
  refine T_arr [] [1, 23, 24, 25] [] [1, 23] _ (by kernel_rfl) (T_loopO (σ := Nat) (fun (v_7 : Nat) => (mk 41 [(1, (rf 1 0)), (23, (ow 23)), (24, (di ((([r_1.pl, r_1.wo, r_1.dr, r_1.lo, r_1.fo, r_1.ag, r_1.af, r_1.aw, r_1.ca]).length : Nat) : Int))), (25, (di ((v_7 : Nat) : Int)))] [(1, (.var (qRow r_1))), (23, (.row 3 1 ([r_1.pl, r_1.wo, r_1.dr, r_1.lo, r_1.fo, r_1.ag, r_1.af, r_1.aw, r_1.ca].map elI)))])) (g_table_checkRow_l2 r_1) 0 h (fun v_7 y1 hy1 h => ?_))
  refine T_reg [] [1, 23, 24, 25, 26] [] (mk 41 [(1, (rf 1 0)), (23, (ow 23)), (24, (di ((([r_1.pl, r_1.wo, r_1.dr, r_1.lo, r_1.fo, r_1.ag, r_1.af, r_1.aw, r_1.ca]).length : Nat) : Int))), (25, (di ((v_7 : Nat) : Int))), (26, (db (decide (((v_7 : Nat) : Int) < ((([r_1.pl, r_1.wo, r_1.dr, r_1.lo, r_1.fo, r_1.ag, r_1.af, r_1.aw, r_1.ca]).length : Nat) : Int)))))] [(1, (.var (qRow r_1))), (23, (.row 3 1 ([r_1.pl, r_1.wo, r_1.dr, r_1.lo, r_1.fo, r_1.ag, r_1.af, r_1.aw, r_1.ca].map elI)))]) _ (by kernel_rfl) (z2 zt) ?_
  refine T_seq ?_
  refine T_cond (decide (((v_7 : Nat) : Int) < ((([r_1.pl, r_1.wo, r_1.dr, r_1.lo, r_1.fo, r_1.ag, r_1.af, r_1.aw, r_1.ca]).length : Nat) : Int))) (by kernel_rfl) (fun b9 => ?_) (fun b9 => ?_)
  replace h := ite_t b9 h
  refine T_skip ?_
  refine T_seq ?_
  refine T_block ?_
  obtain ⟨x_10, e11, e12, e13, h⟩ := gn_inv elI h
  refine T_reg [zn, (zd (I x_10))] [1, 4, 23, 24, 25] [] (mk 41 [(1, (rf 1 0)), (4, (di x_10)), (23, (ow 23)), (24, (di ((([r_1.pl, r_1.wo, r_1.dr, r_1.lo, r_1.fo, r_1.ag, r_1.af, r_1.aw, r_1.ca]).length : Nat) : Int))), (25, (di ((v_7 : Nat) : Int)))] [(1, (.var (qRow r_1))), (23, (.row 3 1 ([r_1.pl, r_1.wo, r_1.dr, r_1.lo, r_1.fo, r_1.ag, r_1.af, r_1.aw, r_1.ca].map elI)))]) _ (by kernel_rfl) (z1 (zc e12 (z1 (zc e13 (z2 zt))))) ?_
  obtain ⟨r_14, e15, h⟩ := bd_inv h
  refine T_reg [zn, (zd (B (r_14)))] [1, 23, 24, 25, 31] [] (mk 41 [(1, (rf 1 0)), (23, (ow 23)), (24, (di ((([r_1.pl, r_1.wo, r_1.dr, r_1.lo, r_1.fo, r_1.ag, r_1.af, r_1.aw, r_1.ca]).length : Nat) : Int))), (25, (di ((v_7 : Nat) : Int))), (31, (db (!(r_14))))] [(1, (.var (qRow r_1))), (23, (.row 3 1 ([r_1.pl, r_1.wo, r_1.dr, r_1.lo, r_1.fo, r_1.ag, r_1.af, r_1.aw, r_1.ca].map elI)))]) _ (by kernel_rfl) (z3 (zc (g_table_within_ret e15) (z2 zt))) ?_
  refine T_cond (!(r_14)) (by kernel_rfl) (fun b16 => ?_) (fun b16 => ?_)
  replace h := ite_t b16 h
  refine T_reg [] [2] [1, 23] (mk 41 [(2, (db false))] []) _ (by kernel_rfl) (z2 zt) ?_
  refine T_ret ?_
  replace h := up_inv h hy1
  obtain rfl := some_inv h
  exact ret_here [(db false)] (by kernel_rfl) (.inl rfl)
  replace h := ite_f b16 h
  refine T_skip ?_
  obtain ⟨c17, h⟩ := ckI_inv h
  exact T_regJ [(zd (I ((v_7 + 1 : Nat) : Int)))] [] [1, 23, 24, 25] [] [1, 23] _ _ (by kernel_rfl) (z1 (zc c17 (z2 zt))) (fun s hs => Exists.intro (v_7 + 1) (And.intro h hs))
  replace h := ite_f b9 h
  refine T_exit ?_
  replace h := up_inv h hy1
  exact Exists.intro () (And.intro h (arr [] [1] [23] [1] (by kernel_rfl)))

theorem g_table_Check_ret {t_1 : Tab} {r : Int} (h : g_table_Check t_1 = some r) : Ret Try.prog 10 [(encTab t_1)] (I r) := by
  refine Ret.of_T Try.func10 (by kernel_rfl) rfl ?_
  refine T_turn [] [0] [] (mk 113 [(0, (.agg (qTab t_1)))] []) (by kernel_rfl) ?_
  refine T_reg [] [1] [] (mk 113 [(1, (rf 1 0))] [(1, (.var (qTab t_1)))]) _ (by kernel_rfl) (z4 zt) ?_
  refine T_seq ?_
  refine T_seqJ (α := Bool) (fun (v_2 : Bool) => (mk 113 [(1, (rf 1 0)), (23, (db (v_2)))] [(1, (.var (qTab t_1)))])) (fun (v_2 : Bool) => g_table_Check_j1 t_1 v_2 = some r) (fun v_2 h => ?_) ?_
  refine T_cond (v_2) (by kernel_rfl) (fun b3 => ?_) (fun b3 => ?_)
  replace h := ite_t b3 h
  refine T_reg [] [2] [1] (mk 113 [(2, (di 1))] []) _ (by kernel_rfl) (z2 zt) ?_
  refine T_ret ?_
  obtain rfl := some_inv h
  exact ret_here [(di 1)] (by kernel_rfl) (.inl rfl)
  replace h := ite_f b3 h
  refine T_skip ?_
  refine T_seq (T_parts ?_)
  refine TL_makeMap 27 3 4 24 24 rfl rfl rfl (by kernel_rfl) (by decide) ?_
  refine TL_turn [] [1, 24] [] (mk 113 [(1, (rf 1 0)), (24, (ow 24))] [(24, (.map Try.prog 3 4 (mapS ([] : List Int)))), (1, (.var (qTab t_1)))]) (by kernel_rfl) ?_
  refine TL_part 1 [] (mk 113 [(1, (rf 1 0)), (3, (ow 24)), (24, (ow 24))] [(24, (.map Try.prog 3 4 (mapS ([] : List Int)))), (1, (.var (qTab t_1)))]) _ (by kernel_rfl) (z2 zt) rfl ?_
  refine TL_nilQ ?_
  refine T_turn [] [1, 3] [] (mk 113 [(1, (rf 1 0)), (3, (ow 24))] [(24, (.map Try.prog 3 4 (mapS ([] : List Int)))), (1, (.var (qTab t_1)))]) (by kernel_rfl) ?_
  refine T_seqJ (α := Unit) (fun (_ : Unit) => (mk 113 [] [])) (fun (_ : Unit) => g_table_Check_j2 = some r) (fun v h => ?_) ?_
  refine T_reg [] [2] [] (mk 113 [(2, (di 0))] []) _ (by kernel_rfl) (z2 zt) ?_
  refine T_ret ?_
  obtain rfl := some_inv h
  exact ret_here [(di 0)] (by kernel_rfl) (.inl rfl)
  refine T_reg [zn, zn, (zd (I ((t_1.l.length : Nat) : Int)))] [1, 3, 26, 27, 28] [] (mk 113 [(1, (rf 1 0)), (3, (ow 24)), (26, (dt (.sl 14 (t_1.l.map encPlace)))), (27, (di ((t_1.l.length : Nat) : Int))), (28, (di 0))] [(24, (.map Try.prog 3 4 (mapS ([] : List Int)))), (1, (.var (qTab t_1)))]) _ (by kernel_rfl) (z5 (zc (len_s encPlace t_1.l) (z2 zt))) ?_
  refine T_block ?_
  refine T_arr [] [1, 3, 26, 27, 28] [] [1, 24] _ (by kernel_rfl) (T_loopO (σ := Nat × (List Int)) (fun ((v_4, m_5) : Nat × (List Int)) => (mk 113 [(1, (rf 1 0)), (3, (ow 24)), (26, (dt (.sl 14 (t_1.l.map encPlace)))), (27, (di ((t_1.l.length : Nat) : Int))), (28, (di ((v_4 : Nat) : Int)))] [(1, (.var (qTab t_1))), (24, (.map Try.prog 3 4 (mapS m_5)))])) (g_table_Check_l3 t_1) (0, ([] : List Int)) h (fun v y1 hy1 h => ?_))
  obtain ⟨v_4, m_5⟩ := v
  refine T_reg [] [1, 3, 26, 27, 28, 29] [] (mk 113 [(1, (rf 1 0)), (3, (ow 24)), (26, (dt (.sl 14 (t_1.l.map encPlace)))), (27, (di ((t_1.l.length : Nat) : Int))), (28, (di ((v_4 : Nat) : Int))), (29, (db (decide (((v_4 : Nat) : Int) < ((t_1.l.length : Nat) : Int)))))] [(1, (.var (qTab t_1))), (24, (.map Try.prog 3 4 (mapS m_5)))]) _ (by kernel_rfl) (z2 zt) ?_
  refine T_seq ?_
  refine T_cond (decide (((v_4 : Nat) : Int) < ((t_1.l.length : Nat) : Int))) (by kernel_rfl) (fun b8 => ?_) (fun b8 => ?_)
  replace h := ite_t b8 h
  refine T_skip ?_
  refine T_seq ?_
  refine T_block ?_
  obtain ⟨x_9, e10, e11, e12, h⟩ := gn_inv encPlace h
  refine T_reg [zn, (zd (encPlace x_9))] [1, 3, 4, 5, 26, 27, 28] [] (mk 113 [(1, (rf 1 0)), (3, (ow 24)), (4, (di ((v_4 : Nat) : Int))), (5, (rf 5 0)), (26, (dt (.sl 14 (t_1.l.map encPlace)))), (27, (di ((t_1.l.length : Nat) : Int))), (28, (di ((v_4 : Nat) : Int)))] [(5, (.var (qPlace x_9))), (1, (.var (qTab t_1))), (24, (.map Try.prog 3 4 (mapS m_5)))]) _ (by kernel_rfl) (z3 (zc e10 (z8 zt))) ?_
  refine T_seqJ (α := Bool) (fun (ok_13 : Bool) => (mk 113 [(1, (rf 1 0)), (3, (ow 24)), (4, (di ((v_4 : Nat) : Int))), (5, (rf 5 0)), (6, (db (ok_13))), (26, (dt (.sl 14 (t_1.l.map encPlace)))), (27, (di ((t_1.l.length : Nat) : Int))), (28, (di ((v_4 : Nat) : Int)))] [(1, (.var (qTab t_1))), (5, (.var (qPlace x_9))), (24, (.map Try.prog 3 4 (mapS m_5)))])) (fun (ok_13 : Bool) => g_table_Check_j4 v_4 t_1 x_9 m_5 ok_13 = some y1) (fun ok_13 h => ?_) ?_
  refine T_seqJ (α := Bool) (fun (ok_14 : Bool) => (mk 113 [(1, (rf 1 0)), (3, (ow 24)), (5, (rf 5 0)), (6, (db (ok_14))), (26, (dt (.sl 14 (t_1.l.map encPlace)))), (27, (di ((t_1.l.length : Nat) : Int))), (28, (di ((v_4 : Nat) : Int)))] [(1, (.var (qTab t_1))), (5, (.var (qPlace x_9))), (24, (.map Try.prog 3 4 (mapS m_5)))])) (fun (ok_14 : Bool) => g_table_Check_j5 x_9 m_5 v_4 t_1 ok_14 = some y1) (fun ok_14 h => ?_) ?_
  refine T_seq ?_
  refine T_seqJ (α := Bool) (fun (v_15 : Bool) => (mk 113 [(1, (rf 1 0)), (3, (ow 24)), (5, (rf 5 0)), (26, (dt (.sl 14 (t_1.l.map encPlace)))), (27, (di ((t_1.l.length : Nat) : Int))), (28, (di ((v_4 : Nat) : Int))), (107, (db (v_15)))] [(1, (.var (qTab t_1))), (5, (.var (qPlace x_9))), (24, (.map Try.prog 3 4 (mapS m_5)))])) (fun (v_15 : Bool) => g_table_Check_j6 x_9 m_5 v_4 t_1 v_15 = some y1) (fun v_15 h => ?_) ?_
  refine T_cond (v_15) (by kernel_rfl) (fun b16 => ?_) (fun b16 => ?_)
  replace h := ite_t b16 h
  refine T_reg [] [2] [1, 5, 24] (mk 113 [(2, (di 1))] []) _ (by kernel_rfl) (z2 zt) ?_
  refine T_ret ?_
  replace h := up_inv h hy1
  obtain rfl := some_inv h
  exact ret_here [(di 1)] (by kernel_rfl) (.inl rfl)
  replace h := ite_f b16 h
  refine T_skip ?_
  refine T_parts ?_
  refine TL_part 4 [] (mk 113 [(1, (rf 1 0)), (3, (ow 24)), (5, (rf 5 0)), (26, (dt (.sl 14 (t_1.l.map encPlace)))), (27, (di ((t_1.l.length : Nat) : Int))), (28, (di ((v_4 : Nat) : Int))), (107, (db (v_15))), (108, (ow 24)), (109, (rf 5 3)), (110, (rf 5 3)), (111, (di x_9.r.c))] [(1, (.var (qTab t_1))), (5, (.var (qPlace x_9))), (24, (.map Try.prog 3 4 (mapS m_5)))]) _ (by kernel_rfl) (z8 zt) rfl ?_
  obtain ⟨c17, h⟩ := ckI_in h
  obtain ⟨c18, h⟩ := ck_inv h
  refine TL_setPut 27 3 4 24 _ _ _ m_5 x_9.r.c rfl rfl (by kernel_rfl) (by kernel_rfl) (by kernel_rfl) (by kernel_rfl) (by kernel_rfl) (by kernel_rfl) (by kernel_rfl) c17 c18 ?_
  refine TL_turn [] [1, 3, 26, 27, 28] [5] (mk 113 [(1, (rf 1 0)), (3, (ow 24)), (26, (dt (.sl 14 (t_1.l.map encPlace)))), (27, (di ((t_1.l.length : Nat) : Int))), (28, (di ((v_4 : Nat) : Int)))] [(1, (.var (qTab t_1))), (24, (.map Try.prog 3 4 (mapS (sput m_5 x_9.r.c))))]) (by kernel_rfl) ?_
  refine TL_nilQ ?_
  obtain ⟨c19, h⟩ := ckI_inv h
  exact T_regJ [(zd (I ((v_4 + 1 : Nat) : Int)))] [] [1, 3, 26, 27, 28] [] [1, 24] _ _ (by kernel_rfl) (z1 (zc c19 (z2 zt))) (fun s hs => Exists.intro (v_4 + 1, (sput m_5 x_9.r.c)) (And.intro h hs))
  rcases Bool.eq_false_or_eq_true (!(ok_14)) with b20 | b20
  replace h := ite_t b20 h
  exact T_regJ [zn, zn, zn, zg, zg, zg, zg, (zd (B true)), zn, zg, zg, zg, zg, (zd (B true)), zn, zg, zg, zg, zg, zg, (zd (B true))] [] [1, 3, 5, 26, 27, 28, 107] [] [1, 5, 24] _ _ (by kernel_rfl) (z6 (zc (gd_tf b20) (zc (gd_tf b20) (zc (gd_tf b20) (zc (gd_tf b20) (z1 (zc b20 (z2 (zc (gd_tf (rfl : true = true)) (zc (gd_tf (rfl : true = true)) (zc (gd_tf (rfl : true = true)) (zc (gd_tf (rfl : true = true)) (z1 (zc (rfl : true = true) (z2 (zc (gd_tf (rfl : true = true)) (zc (gd_tf (rfl : true = true)) (zc (gd_tf (rfl : true = true)) (zc (gd_tf (rfl : true = true)) (zc (gd_tf (rfl : true = true)) (z1 (zc (rfl : true = true) zt)))))))))))))))))))))) (fun s hs => Exists.intro true (And.intro h hs))
  replace h := ite_f b20 h
  rcases Bool.eq_false_or_eq_true (decide (((x_9.z.length : Nat) : Int) > 24)) with b21 | b21
  replace h := ite_t b21 h
  exact T_regJ [zn, zn, zn, zn, zn, zn, zn, (zd (B false)), zn, zg, zg, zg, zg, (zd (B true)), zn, zg, zg, zg, zg, zg, (zd (B true))] [] [1, 3, 5, 26, 27, 28, 107] [] [1, 5, 24] _ _ (by kernel_rfl) (z6 (zc (gd_ff b20) (z1 (zc (gd_ff b20) (z1 (zc (gd_ff b20) (z1 (zc (gd_ff b20) (z2 (zc b20 (z2 (zc (gd_tf b21) (zc (gd_tf b21) (zc (gd_tf b21) (zc (gd_tf b21) (z1 (zc b21 (z2 (zc (gd_tf (rfl : true = true)) (zc (gd_tf (rfl : true = true)) (zc (gd_tf (rfl : true = true)) (zc (gd_tf (rfl : true = true)) (zc (gd_tf (rfl : true = true)) (z1 (zc (rfl : true = true) zt))))))))))))))))))))))))) (fun s hs => Exists.intro true (And.intro h hs))
  replace h := ite_f b21 h
  obtain ⟨r_22, e23, h⟩ := bd_inv h
  rcases Bool.eq_false_or_eq_true (!(r_22)) with b24 | b24
  replace h := ite_t b24 h
  exact T_regJ [zn, zn, zn, zn, zn, zn, zn, (zd (B false)), zn, zn, zn, (zd (B (r_22))), zn, (zd (B false)), zn, zg, zg, zg, zg, zg, (zd (B true))] [] [1, 3, 5, 26, 27, 28, 107] [] [1, 5, 24] _ _ (by kernel_rfl) (z6 (zc (gd_ff b20) (z1 (zc (gd_ff b20) (z1 (zc (gd_ff b20) (z1 (zc (gd_ff b20) (z2 (zc b20 (z2 (zc (gd_ff b21) (z1 (zc (gd_ff b21) (z1 (zc (gd_ff b21) (zc (g_table_checkRow_ret e23) (zc (gd_ff b21) (z2 (zc b21 (z2 (zc (gd_tf b24) (zc (gd_tf b24) (zc (gd_tf b24) (zc (gd_tf b24) (zc (gd_tf b24) (z1 (zc b24 zt)))))))))))))))))))))))))))) (fun s hs => Exists.intro true (And.intro h hs))
  replace h := ite_f b24 h
  obtain ⟨c25, h⟩ := ckI_in h
  exact T_regJ (hl 21 [(7, (zd (B false))), (11, (zd (B (r_22)))), (13, (zd (B false))), (19, (zd (B (smem m_5 x_9.r.c)))), (20, (zd (B false)))]) [] [1, 3, 5, 26, 27, 28, 107] [] [1, 5, 24] _ _ (by kernel_rfl) (z6 (zc (gd_ff b20) (z1 (zc (gd_ff b20) (z1 (zc (gd_ff b20) (z1 (zc (gd_ff b20) (z2 (zc b20 (z2 (zc (gd_ff b21) (z1 (zc (gd_ff b21) (z1 (zc (gd_ff b21) (zc (g_table_checkRow_ret e23) (zc (gd_ff b21) (z2 (zc b21 (z2 (zc (gd_ff b24) (z1 (zc (gd_ff b24) (z1 (zc (gd_ff b24) (z1 (zc (gd_ff b24) (z1 (zc (gd_ff b24) (zc (show (Try.prog = Try.prog ∧ Try.prog.underlying 27 = some (.map 3 4) ∧ Try.prog.underlying 3 = some (.int .i64) ∧ (Lit.int .i64 x_9.r.c).wf = true ∧ lookSide Try.prog 4 (mapS m_5) (.int .i64 x_9.r.c) (B (smem m_5 x_9.r.c))) from ⟨rfl, by kernel_rfl, by kernel_rfl, wf_i64 c25.1 c25.2, by kernel_rfl, by kernel_rfl, mapS_get _ _⟩) (z1 (zc b24 zt))))))))))))))))))))))))))))))))) (fun s hs => Exists.intro (smem m_5 x_9.r.c) (And.intro h hs))
  refine T_seqJ (α := Bool) (fun (v_26 : Bool) => (mk 113 [(1, (rf 1 0)), (3, (ow 24)), (4, (di ((v_4 : Nat) : Int))), (5, (rf 5 0)), (6, (db (ok_13))), (26, (dt (.sl 14 (t_1.l.map encPlace)))), (27, (di ((t_1.l.length : Nat) : Int))), (28, (di ((v_4 : Nat) : Int))), (69, (db (v_26)))] [(1, (.var (qTab t_1))), (5, (.var (qPlace x_9))), (24, (.map Try.prog 3 4 (mapS m_5)))])) (fun (v_26 : Bool) => g_table_Check_j7 x_9 v_4 t_1 m_5 ok_13 v_26 = some y1) (fun v_26 h => ?_) ?_
  refine T_cond (v_26) (by kernel_rfl) (fun b27 => ?_) (fun b27 => ?_)
  replace h := ite_t b27 h
  rcases Bool.eq_false_or_eq_true (x_9.b == 0) with b28 | b28
  replace h := ite_t b28 h
  obtain ⟨c29, h⟩ := ckI_inv h
  obtain ⟨x_30, e31, e32, e33, h⟩ := gt_inv encPlace h
  exact T_regJD 18 (hl 17 [(10, (zd (I (((v_4 : Nat) : Int) - 1)))), (11, (zd (encPlace x_30))), (16, (zd (B true)))]) [] [1, 3, 5, 6, 26, 27, 28] [] [1, 5, 24] _ _ (by kernel_rfl) (by kernel_rfl) (by kernel_rfl) (zc (z8 (zc (gd_tt b28) (z1 (zc (gd_tt b28) (z1 (zc (gd_tt b28) (z1 (zc (gd_tt b28) (z1 (zc (gd_tt b28) (z1 (zc (gd_tt b28) (z1 (zc (gd_tt b28) (zc c29 (zc (gd_tt b28) (zc e31 (zc (gd_tt b28) (z1 (zc (gd_tt b28) (z1 (zc (gd_tt b28) (z1 (zc (gd_tt b28) (z2 (zc b28 (z2 zt))))))))))))))))))))))))))) zt) (fun s hs => Exists.intro (decide (x_9.r.c > x_30.r.c)) (And.intro h hs))
  replace h := ite_f b28 h
  exact T_regJD 18 [zn, zn, zn, zn, zg, zg, zg, zg, zg, zg, zg, zg, zg, zg, zg, zg, (zd (B false))] [] [1, 3, 5, 6, 26, 27, 28] [] [1, 5, 24] _ _ (by kernel_rfl) (by kernel_rfl) (by kernel_rfl) (zc (z8 (zc (gd_ft b28) (zc (gd_ft b28) (zc (gd_ft b28) (zc (gd_ft b28) (zc (gd_ft b28) (zc (gd_ft b28) (zc (gd_ft b28) (zc (gd_ft b28) (zc (gd_ft b28) (zc (gd_ft b28) (zc (gd_ft b28) (zc (gd_ft b28) (z1 (zc b28 (z2 zt)))))))))))))))) zt) (fun s hs => Exists.intro false (And.intro h hs))
  replace h := ite_f b27 h
  refine T_skip ?_
  exact Exists.intro (ok_13) (And.intro h (arr [] [1, 3, 5, 6, 26, 27, 28] [] [1, 5, 24] (by kernel_rfl)))
  rcases Bool.eq_false_or_eq_true (decide (((v_4 : Nat) : Int) > 0)) with b34 | b34
  replace h := ite_t b34 h
  obtain ⟨c35, h⟩ := ckI_inv h
  obtain ⟨x_36, e37, e38, e39, h⟩ := gt_inv encPlace h
  exact T_regJD 14 (hl 14 [(8, (zd (I (((v_4 : Nat) : Int) - 1)))), (9, (zd (encPlace x_36))), (13, (zd (B true)))]) [] [1, 3, 4, 5, 6, 26, 27, 28, 69] [] [1, 5, 24] _ _ (by kernel_rfl) (by kernel_rfl) (by kernel_rfl) (zc (z6 (zc (gd_tt b34) (z1 (zc (gd_tt b34) (z1 (zc (gd_tt b34) (z1 (zc (gd_tt b34) (z1 (zc (gd_tt b34) (z1 (zc (gd_tt b34) (zc c35 (zc (gd_tt b34) (zc e37 (zc (gd_tt b34) (z1 (zc (gd_tt b34) (z1 (zc (gd_tt b34) (z2 (zc b34 zt)))))))))))))))))))))) zt) (fun s hs => Exists.intro (x_9.k == x_36.k) (And.intro h hs))
  replace h := ite_f b34 h
  exact T_regJD 14 [zn, zn, zn, zg, zg, zg, zg, zg, zg, zg, zg, zg, zg, (zd (B false))] [] [1, 3, 4, 5, 6, 26, 27, 28, 69] [] [1, 5, 24] _ _ (by kernel_rfl) (by kernel_rfl) (by kernel_rfl) (zc (z6 (zc (gd_ft b34) (zc (gd_ft b34) (zc (gd_ft b34) (zc (gd_ft b34) (zc (gd_ft b34) (zc (gd_ft b34) (zc (gd_ft b34) (zc (gd_ft b34) (zc (gd_ft b34) (zc (gd_ft b34) (z1 (zc b34 zt))))))))))))) zt) (fun s hs => Exists.intro false (And.intro h hs))
  obtain ⟨c40, h⟩ := ckI_inv h
  rcases Bool.eq_false_or_eq_true (x_9.k == ((v_4 + 1 : Nat) : Int)) with b41 | b41
  replace h := ite_t b41 h
  rcases Bool.eq_false_or_eq_true (((v_4 : Nat) : Int) == 0) with b42 | b42
  replace h := ite_t b42 h
  rcases Bool.eq_false_or_eq_true (x_9.b == 0) with b43 | b43
  replace h := ite_t b43 h
  exact T_regJ (hl 23 [(3, (zd (I ((v_4 + 1 : Nat) : Int)))), (12, (zd (B true))), (14, zg), (15, zg), (16, zg), (20, zg), (21, (zd (B true))), (22, (zd (B true)))]) [] [1, 3, 4, 5, 6, 26, 27, 28] [] [1, 5, 24] _ _ (by kernel_rfl) (z7 (zc c40 (z4 (zc (gd_tt b41) (z1 (zc (gd_tt b41) (z1 (zc (gd_tt b41) (z1 (zc (gd_tt b42) (z1 (zc (gd_tt b42) (z1 (zc (gd_tt b42) (z1 (zc (gd_tt b41) (zc b42 (zc (gd_tt b41) (z1 (zc (gd_tf b43) (zc (gd_tf b43) (zc (gd_tf b43) (z3 (zc (gd_tf b43) (zc (gd_tt b41) (zc b43 (z1 (zc b41 (z2 zt))))))))))))))))))))))))))))) (fun s hs => Exists.intro true (And.intro h hs))
  replace h := ite_f b43 h
  rcases Bool.eq_false_or_eq_true (decide (((v_4 : Nat) : Int) > 0)) with b44 | b44
  replace h := ite_t b44 h
  obtain ⟨r_45, e46, h⟩ := bd_inv h
  exact T_regJ (hl 23 [(3, (zd (I ((v_4 + 1 : Nat) : Int)))), (12, (zd (B true))), (19, (zd (B (r_45)))), (20, (zd (B true))), (21, (zd (B false))), (22, (zd (B true)))]) [] [1, 3, 4, 5, 6, 26, 27, 28] [] [1, 5, 24] _ _ (by kernel_rfl) (z7 (zc c40 (z4 (zc (gd_tt b41) (z1 (zc (gd_tt b41) (z1 (zc (gd_tt b41) (z1 (zc (gd_tt b42) (z1 (zc (gd_tt b42) (z1 (zc (gd_tt b42) (z1 (zc (gd_tt b41) (zc b42 (zc (gd_tt b41) (z1 (zc (gd_ff b43) (z1 (zc (gd_ff b43) (z1 (zc (gd_ff b43) (z1 (zc (gd_tt b44) (z1 (zc (gd_tt b44) (z1 (zc (gd_tt b44) (zc (g_table_within_ret e46) (zc (gd_ff b43) (zc b44 (zc (gd_tt b41) (zc b43 (z1 (zc b41 (z2 zt)))))))))))))))))))))))))))))))))))))) (fun s hs => Exists.intro (r_45) (And.intro h hs))
  replace h := ite_f b44 h
  exact T_regJ (hl 23 [(3, (zd (I ((v_4 + 1 : Nat) : Int)))), (12, (zd (B true))), (17, zg), (18, zg), (19, zg), (20, (zd (B false))), (21, (zd (B false))), (22, (zd (B true)))]) [] [1, 3, 4, 5, 6, 26, 27, 28] [] [1, 5, 24] _ _ (by kernel_rfl) (z7 (zc c40 (z4 (zc (gd_tt b41) (z1 (zc (gd_tt b41) (z1 (zc (gd_tt b41) (z1 (zc (gd_tt b42) (z1 (zc (gd_tt b42) (z1 (zc (gd_tt b42) (z1 (zc (gd_tt b41) (zc b42 (zc (gd_tt b41) (z1 (zc (gd_ff b43) (z1 (zc (gd_ff b43) (z1 (zc (gd_ff b43) (z1 (zc (gd_ft b44) (zc (gd_ft b44) (zc (gd_ft b44) (zc (gd_ff b43) (zc b44 (zc (gd_tt b41) (zc b43 (z1 (zc b41 (z2 zt))))))))))))))))))))))))))))))))))) (fun s hs => Exists.intro false (And.intro h hs))
  replace h := ite_f b42 h
  rcases Bool.eq_false_or_eq_true (decide (((v_4 : Nat) : Int) > 0)) with b47 | b47
  replace h := ite_t b47 h
  obtain ⟨r_48, e49, h⟩ := bd_inv h
  exact T_regJ [zn, zn, zn, (zd (I ((v_4 + 1 : Nat) : Int))), zn, zn, zn, zn, zn, zg, zg, zg, (zd (B false)), zn, zn, zn, zn, zn, zn, (zd (B (r_48))), (zd (B true)), (zd (B false)), (zd (B true))] [] [1, 3, 4, 5, 6, 26, 27, 28] [] [1, 5, 24] _ _ (by kernel_rfl) (z7 (zc c40 (z4 (zc (gd_tt b41) (z1 (zc (gd_tt b41) (z1 (zc (gd_tt b41) (z1 (zc (gd_ft b42) (zc (gd_ft b42) (zc (gd_ft b42) (zc (gd_tt b41) (zc b42 (zc (gd_tt b41) (z1 (zc (gd_ff (rfl : false = false)) (z1 (zc (gd_ff (rfl : false = false)) (z1 (zc (gd_ff (rfl : false = false)) (z1 (zc (gd_tt b47) (z1 (zc (gd_tt b47) (z1 (zc (gd_tt b47) (zc (g_table_within_ret e49) (zc (gd_ff (rfl : false = false)) (zc b47 (zc (gd_tt b41) (zc (rfl : false = false) (z1 (zc b41 (z2 zt))))))))))))))))))))))))))))))))))) (fun s hs => Exists.intro (r_48) (And.intro h hs))
  replace h := ite_f b47 h
  exact T_regJ [zn, zn, zn, (zd (I ((v_4 + 1 : Nat) : Int))), zn, zn, zn, zn, zn, zg, zg, zg, (zd (B false)), zn, zn, zn, zn, zg, zg, zg, (zd (B false)), (zd (B false)), (zd (B true))] [] [1, 3, 4, 5, 6, 26, 27, 28] [] [1, 5, 24] _ _ (by kernel_rfl) (z7 (zc c40 (z4 (zc (gd_tt b41) (z1 (zc (gd_tt b41) (z1 (zc (gd_tt b41) (z1 (zc (gd_ft b42) (zc (gd_ft b42) (zc (gd_ft b42) (zc (gd_tt b41) (zc b42 (zc (gd_tt b41) (z1 (zc (gd_ff (rfl : false = false)) (z1 (zc (gd_ff (rfl : false = false)) (z1 (zc (gd_ff (rfl : false = false)) (z1 (zc (gd_ft b47) (zc (gd_ft b47) (zc (gd_ft b47) (zc (gd_ff (rfl : false = false)) (zc b47 (zc (gd_tt b41) (zc (rfl : false = false) (z1 (zc b41 (z2 zt)))))))))))))))))))))))))))))))) (fun s hs => Exists.intro false (And.intro h hs))
  replace h := ite_f b41 h
  exact T_regJ (hl 23 [(3, (zd (I ((v_4 + 1 : Nat) : Int)))), (6, zg), (7, zg), (8, zg), (12, zg), (13, zg), (21, zg), (22, (zd (B false)))]) [] [1, 3, 4, 5, 6, 26, 27, 28] [] [1, 5, 24] _ _ (by kernel_rfl) (z7 (zc c40 (z4 (zc (gd_ft b41) (zc (gd_ft b41) (zc (gd_ft b41) (z3 (zc (gd_ft b41) (zc (gd_ft b41) (z7 (zc (gd_ft b41) (z1 (zc b41 (z2 zt)))))))))))))) (fun s hs => Exists.intro false (And.intro h hs))
  replace h := ite_f b8 h
  refine T_exit ?_
  replace h := up_inv h hy1
  exact Exists.intro () (And.intro h (arr [] [] [1, 24] [] (by kernel_rfl)))
  obtain ⟨r_50, e51, h⟩ := bd_inv h
  rcases Bool.eq_false_or_eq_true (!(r_50)) with b52 | b52
  replace h := ite_t b52 h
  exact T_regJ [zn, zn, (zd (B (r_50))), zn, zn, zg, zg, zg, zg, (zd (B true)), zn, zg, zg, zg, zg, zg, (zd (B true))] [] [1, 23] [] [1] _ _ (by kernel_rfl) (z5 (zc (g_table_within_ret e51) (z4 (zc (gd_tf b52) (zc (gd_tf b52) (zc (gd_tf b52) (zc (gd_tf b52) (z1 (zc b52 (z2 (zc (gd_tf (rfl : true = true)) (zc (gd_tf (rfl : true = true)) (zc (gd_tf (rfl : true = true)) (zc (gd_tf (rfl : true = true)) (zc (gd_tf (rfl : true = true)) (z1 (zc (rfl : true = true) zt))))))))))))))))) (fun s hs => Exists.intro true (And.intro h hs))
  replace h := ite_f b52 h
  obtain ⟨r_53, e54, h⟩ := bd_inv h
  rcases Bool.eq_false_or_eq_true (!(r_53)) with b55 | b55
  replace h := ite_t b55 h
  exact T_regJ [zn, zn, (zd (B (r_50))), zn, zn, zn, zn, (zd (B (r_53))), zn, (zd (B false)), zn, zg, zg, zg, zg, zg, (zd (B true))] [] [1, 23] [] [1] _ _ (by kernel_rfl) (z5 (zc (g_table_within_ret e51) (z4 (zc (gd_ff b52) (z1 (zc (gd_ff b52) (z1 (zc (gd_ff b52) (zc (g_table_within_ret e54) (zc (gd_ff b52) (z2 (zc b52 (z2 (zc (gd_tf b55) (zc (gd_tf b55) (zc (gd_tf b55) (zc (gd_tf b55) (zc (gd_tf b55) (z1 (zc b55 zt)))))))))))))))))))) (fun s hs => Exists.intro true (And.intro h hs))
  replace h := ite_f b55 h
  obtain ⟨r_56, e57, h⟩ := bd_inv h
  exact T_regJ (hl 17 [(2, (zd (B (r_50)))), (7, (zd (B (r_53)))), (9, (zd (B false))), (13, (zd (I ((t_1.l.length : Nat) : Int)))), (14, (zd (B (r_56)))), (16, (zd (B false)))]) [] [1, 23] [] [1] _ _ (by kernel_rfl) (z5 (zc (g_table_within_ret e51) (z4 (zc (gd_ff b52) (z1 (zc (gd_ff b52) (z1 (zc (gd_ff b52) (zc (g_table_within_ret e54) (zc (gd_ff b52) (z2 (zc b52 (z2 (zc (gd_ff b55) (z1 (zc (gd_ff b55) (z1 (zc (gd_ff b55) (zc (len_s encPlace t_1.l) (zc (gd_ff b55) (zc (g_table_within_ret e57) (zc (gd_ff b55) (z2 (zc b55 zt)))))))))))))))))))))))) (fun s hs => Exists.intro (!(r_56)) (And.intro h hs))

theorem g_prizes_Check_1_ret {n_1 : Int} {low_2 : Int} {high_3 : Int} {r : Bool} (h : g_prizes_Check_1 n_1 low_2 high_3 = some r) : Ret Try.prog 33 [(I n_1), (I low_2), (I high_3)] (B (r)) := by
  refine Ret.of_T Try.func33 (by kernel_rfl) rfl ?_
  refine T_turn [] [0, 1, 2] [] (mk 15 [(0, (di n_1)), (1, (di low_2)), (2, (di high_3))] []) (by kernel_rfl) ?_
  refine T_reg [] [0, 1, 2] [] (mk 15 [(0, (di n_1)), (1, (di low_2)), (2, (di high_3))] []) _ (by kernel_rfl) (z2 zt) ?_
  rcases Bool.eq_false_or_eq_true (decide (low_2 ≤ n_1)) with b4 | b4
  replace h := ite_t b4 h
  refine T_reg (hl 8 [(7, (zd (B true)))]) [6] [] (mk 15 [(6, (db (decide (n_1 ≤ high_3))))] []) _ (by kernel_rfl) (z8 (zc (gd_tt b4) (z1 (zc (gd_tt b4) (z1 (zc (gd_tt b4) (z2 (zc b4 (z2 zt))))))))) ?_
  refine T_ret ?_
  obtain rfl := some_inv h
  exact ret_here [(db (decide (n_1 ≤ high_3)))] (by kernel_rfl) (.inl rfl)
  replace h := ite_f b4 h
  refine T_reg [zn, zn, zn, zn, zg, zg, zg, (zd (B false))] [6] [] (mk 15 [(6, (db false))] []) _ (by kernel_rfl) (z8 (zc (gd_ft b4) (zc (gd_ft b4) (zc (gd_ft b4) (z1 (zc b4 (z2 zt))))))) ?_
  refine T_ret ?_
  obtain rfl := some_inv h
  exact ret_here [(db false)] (by kernel_rfl) (.inl rfl)

end Go.Proofs.Ytoiiblkncbnlaaa

/-
  Go functions as partial functions, printed by auto.py: what each returns when its partial function has a value. Conditions: those of each theorem.
-/
namespace Go.Proofs.Ytoiiblkncbnlaaa
open Go.DL
set_option maxRecDepth 100000
set_option maxHeartbeats 4000000
set_option linter.unusedVariables false
set_option linter.unusedSimpArgs false
theorem g_prizes_Check_ret {s_1 : Sch} {r : Int} (h : g_prizes_Check s_1 = some r) : Ret Try.prog 13 [(encSch s_1)] (I r) := by
  refine Ret.of_T Try.func13 (by kernel_rfl) rfl ?_
  refine T_turn [] [0] [] (mk 120 [(0, (.agg (qSch s_1)))] []) (by kernel_rfl) ?_
  refine T_reg [] [1] [] (mk 120 [(1, (rf 1 0))] [(1, (.var (qSch s_1)))]) _ (by kernel_rfl) (z4 zt) ?_
  refine T_reg [] [1, 3] [] (mk 120 [(1, (rf 1 0)), (3, (rf 3 0))] [(3, (.var [(.fn 33 [])])), (1, (.var (qSch s_1)))]) _ (by kernel_rfl) (z4 zt) ?_
  refine T_reg [] [1, 3, 4] [] (mk 120 [(1, (rf 1 0)), (3, (rf 3 0)), (4, (.one (.fn 34 [.inl 3, .inl 1])))] [(3, (.var [(.fn 33 [])])), (1, (.var (qSch s_1)))]) _ (by kernel_rfl) (z4 zt) ?_
  refine T_seq ?_
  refine T_seqJ (α := Bool) (fun (v_2 : Bool) => (mk 120 [(1, (rf 1 0)), (3, (rf 3 0)), (4, (.one (.fn 34 [.inl 3, .inl 1]))), (34, (db (v_2)))] [(1, (.var (qSch s_1))), (3, (.var [(.fn 33 [])]))])) (fun (v_2 : Bool) => g_prizes_Check_j1 s_1 v_2 = some r) (fun v_2 h => ?_) ?_
  refine T_cond (v_2) (by kernel_rfl) (fun b3 => ?_) (fun b3 => ?_)
  replace h := ite_t b3 h
  refine T_reg [] [2] [1, 3] (mk 120 [(2, (di 420))] []) _ (by kernel_rfl) (z2 zt) ?_
  refine T_ret ?_
  obtain rfl := some_inv h
  exact ret_here [(di 420)] (by kernel_rfl) (.inl rfl)
  replace h := ite_f b3 h
  refine T_skip ?_
  refine T_reg [] [1, 3, 4, 5, 6] [] (mk 120 [(1, (rf 1 0)), (3, (rf 3 0)), (4, (.one (.fn 34 [.inl 3, .inl 1]))), (5, (di 0)), (6, (di 0))] [(1, (.var (qSch s_1))), (3, (.var [(.fn 33 [])]))]) _ (by kernel_rfl) (z4 zt) ?_
  refine T_seqJ (α := Int) (fun (sum_4 : Int) => (mk 120 [(1, (rf 1 0)), (4, (.one (.fn 34 [.inl 3, .inl 1]))), (5, (di sum_4))] [(1, (.var (qSch s_1))), (3, (.var [(.fn 33 [])]))])) (fun (sum_4 : Int) => g_prizes_Check_j2 s_1 sum_4 = some r) (fun sum_4 h => ?_) ?_
  refine T_seq ?_
  refine T_seqJ (α := Bool) (fun (v_5 : Bool) => (mk 120 [(119, (db (v_5)))] [])) (fun (v_5 : Bool) => g_prizes_Check_j3 v_5 = some r) (fun v_5 h => ?_) ?_
  refine T_cond (v_5) (by kernel_rfl) (fun b6 => ?_) (fun b6 => ?_)
  replace h := ite_t b6 h
  refine T_reg [] [2] [] (mk 120 [(2, (di 420))] []) _ (by kernel_rfl) (z2 zt) ?_
  refine T_ret ?_
  obtain rfl := some_inv h
  exact ret_here [(di 420)] (by kernel_rfl) (.inl rfl)
  replace h := ite_f b6 h
  refine T_skip ?_
  refine T_reg [] [2] [] (mk 120 [(2, (di 0))] []) _ (by kernel_rfl) (z2 zt) ?_
  refine T_ret ?_
  obtain rfl := some_inv h
  exact ret_here [(di 0)] (by kernel_rfl) (.inl rfl)
  rcases Bool.eq_false_or_eq_true (decide (sum_4 > 1125899906842624)) with b7 | b7
  replace h := ite_t b7 h
  exact T_regJ [zn, zn, zn, zg, zg, zg, zg, zg, (zd (B true)), zn, zg, zg, zg, zg, zg, (zd (B true)), zn, zg, zg, zg, zg, zg, zg, zn, zn, zn, zg, (zd (B true)), zn, zg, zg, zg, zg, zn, zn, zn, zg, (zd (B true)), zn, zg, zg, zg, zg, zn, zn, zn, zg, (zd (B true))] [] [119] [1, 3] [] _ _ (by kernel_rfl) (z6 (zc (gd_tf b7) (zc (gd_tf b7) (zc (gd_tf b7) (zc (gd_tf b7) (zc (gd_tf b7) (z1 (zc b7 (z2 (zc (gd_tf (rfl : true = true)) (zc (gd_tf (rfl : true = true)) (zc (gd_tf (rfl : true = true)) (zc (gd_tf (rfl : true = true)) (zc (gd_tf (rfl : true = true)) (z1 (zc (rfl : true = true) (z2 (zc (gd_tf (rfl : true = true)) (zc (gd_tf (rfl : true = true)) (zc (gd_tf (rfl : true = true)) (zc (gd_tf (rfl : true = true)) (zc (gd_tf (rfl : true = true)) (zc (gd_tf (rfl : true = true)) (z3 (zc (gd_tf (rfl : true = true)) (z1 (zc (rfl : true = true) (z2 (zc (gd_tf (rfl : true = true)) (zc (gd_tf (rfl : true = true)) (zc (gd_tf (rfl : true = true)) (zc (gd_tf (rfl : true = true)) (z3 (zc (gd_tf (rfl : true = true)) (z1 (zc (rfl : true = true) (z2 (zc (gd_tf (rfl : true = true)) (zc (gd_tf (rfl : true = true)) (zc (gd_tf (rfl : true = true)) (zc (gd_tf (rfl : true = true)) (z3 (zc (gd_tf (rfl : true = true)) (z1 (zc (rfl : true = true) zt))))))))))))))))))))))))))))))))))))))))))))) (fun s hs => Exists.intro true (And.intro h hs))
  replace h := ite_f b7 h
  refine T_parts ?_
  refine TL_part 6 [] (mk 120 [(1, (rf 1 0)), (4, (.one (.fn 34 [.inl 3, .inl 1]))), (5, (di sum_4)), (72, (di sum_4)), (73, (db (decide (sum_4 > 1125899906842624)))), (74, (db (decide (sum_4 > 1125899906842624)))), (75, (.one (.fn 34 [.inl 3, .inl 1]))), (76, (rf 1 4)), (77, (di s_1.ab))] [(1, (.var (qSch s_1))), (3, (.var [(.fn 33 [])]))]) _ (by kernel_rfl) (z6 (zc (gd_ff b7) (z1 (zc (gd_ff b7) (z1 (zc (gd_ff b7) (z1 zt))))))) rfl ?_
  refine TL_guard (p := ((decide (sum_4 > 1125899906842624)) == false) = true) (by kernel_rfl) (gd_ff b7) ?_
  refine TL_consJ (α := Bool) (fun (v_8 : Bool) => (mk 120 [(1, (rf 1 0)), (4, (.one (.fn 34 [.inl 3, .inl 1]))), (74, (db (decide (sum_4 > 1125899906842624)))), (78, (db (v_8)))] [(1, (.var (qSch s_1))), (3, (.var [(.fn 33 [])]))])) (fun (v_8 : Bool) => g_prizes_Check_j4 s_1 sum_4 v_8 = some r) (fun v_8 h => ?_) ?_
  refine TL_turn [] [1, 4, 74, 78] [] (mk 120 [(1, (rf 1 0)), (4, (.one (.fn 34 [.inl 3, .inl 1]))), (74, (db (decide (sum_4 > 1125899906842624)))), (78, (db (v_8)))] [(1, (.var (qSch s_1))), (3, (.var [(.fn 33 [])]))]) (by kernel_rfl) ?_
  rcases Bool.eq_false_or_eq_true (!(v_8)) with b9 | b9
  replace h := ite_t b9 h
  refine TL_part 41 [zn, (zd (B false)), zn, zg, zg, zg, zg, zg, (zd (B true)), zn, zg, zg, zg, zg, zg, zg, zn, zn, zn, zg, (zd (B true)), zn, zg, zg, zg, zg, zn, zn, zn, zg, (zd (B true)), zn, zg, zg, zg, zg, zn, zn, zn, zg, (zd (B true))] (mk 120 [(1, (rf 1 0)), (4, (.one (.fn 34 [.inl 3, .inl 1]))), (74, (db (decide (sum_4 > 1125899906842624)))), (78, (db (v_8))), (79, (db (!(v_8)))), (80, (db (!(v_8)))), (81, (db (!(v_8)))), (82, (dt (.tup []))), (83, (dt (.tup []))), (84, (dt (.tup []))), (85, (dt (.tup []))), (86, (dt (.tup []))), (87, (db true)), (88, (db true)), (89, (dt (.tup []))), (90, (dt (.tup []))), (91, (dt (.tup []))), (92, (dt (.tup []))), (93, (dt (.tup []))), (94, (dt (.tup []))), (95, (dt (.tup []))), (96, (dt (.tup []))), (97, (dt (.tup []))), (98, (dt (.tup []))), (99, (db true)), (100, (db true)), (101, (dt (.tup []))), (102, (dt (.tup []))), (103, (dt (.tup []))), (104, (dt (.tup []))), (105, (dt (.tup []))), (106, (dt (.tup []))), (107, (dt (.tup []))), (108, (dt (.tup []))), (109, (db true)), (110, (db true)), (111, (dt (.tup []))), (112, (dt (.tup []))), (113, (dt (.tup []))), (114, (dt (.tup []))), (115, (dt (.tup []))), (116, (dt (.tup []))), (117, (dt (.tup []))), (118, (dt (.tup []))), (119, (db true))] [(1, (.var (qSch s_1))), (3, (.var [(.fn 33 [])]))]) _ (by kernel_rfl) (zc (gd_ff b7) (z2 (zc b7 (z2 (zc (gd_tf b9) (zc (gd_tf b9) (zc (gd_tf b9) (zc (gd_tf b9) (zc (gd_tf b9) (z1 (zc b9 (z2 (zc (gd_tf (rfl : true = true)) (zc (gd_tf (rfl : true = true)) (zc (gd_tf (rfl : true = true)) (zc (gd_tf (rfl : true = true)) (zc (gd_tf (rfl : true = true)) (zc (gd_tf (rfl : true = true)) (z3 (zc (gd_tf (rfl : true = true)) (z1 (zc (rfl : true = true) (z2 (zc (gd_tf (rfl : true = true)) (zc (gd_tf (rfl : true = true)) (zc (gd_tf (rfl : true = true)) (zc (gd_tf (rfl : true = true)) (z3 (zc (gd_tf (rfl : true = true)) (z1 (zc (rfl : true = true) (z2 (zc (gd_tf (rfl : true = true)) (zc (gd_tf (rfl : true = true)) (zc (gd_tf (rfl : true = true)) (zc (gd_tf (rfl : true = true)) (z3 (zc (gd_tf (rfl : true = true)) (z1 (zc (rfl : true = true) zt)))))))))))))))))))))))))))))))))))))))) rfl ?_
  refine TL_nilQ ?_
  exact Exists.intro true (And.intro h (arr [] [119] [1, 3] [] (by kernel_rfl)))
  replace h := ite_f b9 h
  refine TL_part 6 [zn, (zd (B false))] (mk 120 [(1, (rf 1 0)), (4, (.one (.fn 34 [.inl 3, .inl 1]))), (74, (db (decide (sum_4 > 1125899906842624)))), (78, (db (v_8))), (79, (db (!(v_8)))), (80, (db (!(v_8)))), (81, (db (!(v_8)))), (82, (.one (.fn 34 [.inl 3, .inl 1]))), (83, (rf 1 5)), (84, (di s_1.be))] [(1, (.var (qSch s_1))), (3, (.var [(.fn 33 [])]))]) _ (by kernel_rfl) (zc (gd_ff b7) (z2 (zc b7 (z2 (zc (gd_ff b9) (z1 (zc (gd_ff b9) (z1 (zc (gd_ff b9) (z1 zt)))))))))) rfl ?_
  refine TL_guard (p := ((!(v_8)) == false) = true) (by kernel_rfl) (gd_ff b9) ?_
  refine TL_consJ (α := Bool) (fun (v_10 : Bool) => (mk 120 [(1, (rf 1 0)), (81, (db (!(v_8)))), (85, (db (v_10)))] [(1, (.var (qSch s_1)))])) (fun (v_10 : Bool) => g_prizes_Check_j5 s_1 v_8 v_10 = some r) (fun v_10 h => ?_) ?_
  refine TL_turn [] [1, 81, 85] [] (mk 120 [(1, (rf 1 0)), (81, (db (!(v_8)))), (85, (db (v_10)))] [(1, (.var (qSch s_1)))]) (by kernel_rfl) ?_
  rcases Bool.eq_false_or_eq_true (!(v_10)) with b11 | b11
  replace h := ite_t b11 h
  refine TL_part 34 [zn, (zd (B false)), zn, zg, zg, zg, zg, zg, zg, zn, zn, zn, zg, (zd (B true)), zn, zg, zg, zg, zg, zn, zn, zn, zg, (zd (B true)), zn, zg, zg, zg, zg, zn, zn, zn, zg, (zd (B true))] (mk 120 [(1, (rf 1 0)), (81, (db (!(v_8)))), (85, (db (v_10))), (86, (db (!(v_10)))), (87, (db (!(v_10)))), (88, (db (!(v_10)))), (89, (dt (.tup []))), (90, (dt (.tup []))), (91, (dt (.tup []))), (92, (dt (.tup []))), (93, (dt (.tup []))), (94, (dt (.tup []))), (95, (dt (.tup []))), (96, (dt (.tup []))), (97, (dt (.tup []))), (98, (dt (.tup []))), (99, (db true)), (100, (db true)), (101, (dt (.tup []))), (102, (dt (.tup []))), (103, (dt (.tup []))), (104, (dt (.tup []))), (105, (dt (.tup []))), (106, (dt (.tup []))), (107, (dt (.tup []))), (108, (dt (.tup []))), (109, (db true)), (110, (db true)), (111, (dt (.tup []))), (112, (dt (.tup []))), (113, (dt (.tup []))), (114, (dt (.tup []))), (115, (dt (.tup []))), (116, (dt (.tup []))), (117, (dt (.tup []))), (118, (dt (.tup []))), (119, (db true))] [(1, (.var (qSch s_1)))]) _ (by kernel_rfl) (zc (gd_ff b9) (z2 (zc b9 (z2 (zc (gd_tf b11) (zc (gd_tf b11) (zc (gd_tf b11) (zc (gd_tf b11) (zc (gd_tf b11) (zc (gd_tf b11) (z3 (zc (gd_tf b11) (z1 (zc b11 (z2 (zc (gd_tf (rfl : true = true)) (zc (gd_tf (rfl : true = true)) (zc (gd_tf (rfl : true = true)) (zc (gd_tf (rfl : true = true)) (z3 (zc (gd_tf (rfl : true = true)) (z1 (zc (rfl : true = true) (z2 (zc (gd_tf (rfl : true = true)) (zc (gd_tf (rfl : true = true)) (zc (gd_tf (rfl : true = true)) (zc (gd_tf (rfl : true = true)) (z3 (zc (gd_tf (rfl : true = true)) (z1 (zc (rfl : true = true) zt)))))))))))))))))))))))))))))))) rfl ?_
  refine TL_nilQ ?_
  exact Exists.intro true (And.intro h (arr [] [119] [1] [] (by kernel_rfl)))
  replace h := ite_f b11 h
  rcases Bool.eq_false_or_eq_true (s_1.ab == s_1.be) with b12 | b12
  replace h := ite_t b12 h
  rcases Bool.eq_false_or_eq_true (s_1.ab != (-1)) with b13 | b13
  replace h := ite_t b13 h
  refine TL_part 34 [zn, (zd (B false)), zn, zn, zn, zn, zn, zn, zn, zn, zn, zn, (zd (B true)), (zd (B false)), zn, zg, zg, zg, zg, zn, zn, zn, zg, (zd (B true)), zn, zg, zg, zg, zg, zn, zn, zn, zg, (zd (B true))] (mk 120 [(1, (rf 1 0)), (81, (db (!(v_8)))), (85, (db (v_10))), (86, (db (!(v_10)))), (87, (db (!(v_10)))), (88, (db (!(v_10)))), (89, (rf 1 4)), (90, (di s_1.ab)), (91, (rf 1 5)), (92, (di s_1.be)), (93, (db (s_1.ab == s_1.be))), (94, (db (s_1.ab == s_1.be))), (95, (rf 1 4)), (96, (di s_1.ab)), (97, (db (s_1.ab != (-1)))), (98, (db (s_1.ab != (-1)))), (99, (db (s_1.ab != (-1)))), (100, (db (s_1.ab != (-1)))), (101, (dt (.tup []))), (102, (dt (.tup []))), (103, (dt (.tup []))), (104, (dt (.tup []))), (105, (dt (.tup []))), (106, (dt (.tup []))), (107, (dt (.tup []))), (108, (dt (.tup []))), (109, (db true)), (110, (db true)), (111, (dt (.tup []))), (112, (dt (.tup []))), (113, (dt (.tup []))), (114, (dt (.tup []))), (115, (dt (.tup []))), (116, (dt (.tup []))), (117, (dt (.tup []))), (118, (dt (.tup []))), (119, (db true))] [(1, (.var (qSch s_1)))]) _ (by kernel_rfl) (zc (gd_ff b9) (z2 (zc b9 (z2 (zc (gd_ff b11) (z1 (zc (gd_ff b11) (z1 (zc (gd_ff b11) (z1 (zc (gd_ff b11) (z1 (zc (gd_ff b11) (z1 (zc (gd_ff b11) (z1 (zc (gd_tt b12) (z1 (zc (gd_tt b12) (z1 (zc (gd_tt b12) (z1 (zc (gd_ff b11) (zc b12 (z1 (zc b11 (z2 (zc (gd_tf b13) (zc (gd_tf b13) (zc (gd_tf b13) (zc (gd_tf b13) (z3 (zc (gd_tf b13) (z1 (zc b13 (z2 (zc (gd_tf (rfl : true = true)) (zc (gd_tf (rfl : true = true)) (zc (gd_tf (rfl : true = true)) (zc (gd_tf (rfl : true = true)) (z3 (zc (gd_tf (rfl : true = true)) (z1 (zc (rfl : true = true) zt)))))))))))))))))))))))))))))))))))))))))))) rfl ?_
  refine TL_nilQ ?_
  exact Exists.intro true (And.intro h (arr [] [119] [1] [] (by kernel_rfl)))
  replace h := ite_f b13 h
  rcases Bool.eq_false_or_eq_true (s_1.ab == (-1)) with b14 | b14
  replace h := ite_t b14 h
  rcases Bool.eq_false_or_eq_true (decide (s_1.u > 0)) with b15 | b15
  replace h := ite_t b15 h
  refine TL_part 34 (hl 34 [(1, (zd (B false))), (12, (zd (B true))), (13, (zd (B false))), (22, (zd (B true))), (23, (zd (B false))), (25, zg), (26, zg), (27, zg), (28, zg), (32, zg), (33, (zd (B true)))]) (mk 120 [(1, (rf 1 0)), (81, (db (!(v_8)))), (85, (db (v_10))), (86, (db (!(v_10)))), (87, (db (!(v_10)))), (88, (db (!(v_10)))), (89, (rf 1 4)), (90, (di s_1.ab)), (91, (rf 1 5)), (92, (di s_1.be)), (93, (db (s_1.ab == s_1.be))), (94, (db (s_1.ab == s_1.be))), (95, (rf 1 4)), (96, (di s_1.ab)), (97, (db (s_1.ab != (-1)))), (98, (db (s_1.ab != (-1)))), (99, (db (s_1.ab != (-1)))), (100, (db (s_1.ab != (-1)))), (101, (rf 1 4)), (102, (di s_1.ab)), (103, (db (s_1.ab == (-1)))), (104, (db (s_1.ab == (-1)))), (105, (rf 1 2)), (106, (di s_1.u)), (107, (db (decide (s_1.u > 0)))), (108, (db (decide (s_1.u > 0)))), (109, (db (decide (s_1.u > 0)))), (110, (db (decide (s_1.u > 0)))), (111, (dt (.tup []))), (112, (dt (.tup []))), (113, (dt (.tup []))), (114, (dt (.tup []))), (115, (dt (.tup []))), (116, (dt (.tup []))), (117, (dt (.tup []))), (118, (dt (.tup []))), (119, (db true))] [(1, (.var (qSch s_1)))]) _ (by kernel_rfl) (zc (gd_ff b9) (z2 (zc b9 (z2 (zc (gd_ff b11) (z1 (zc (gd_ff b11) (z1 (zc (gd_ff b11) (z1 (zc (gd_ff b11) (z1 (zc (gd_ff b11) (z1 (zc (gd_ff b11) (z1 (zc (gd_tt b12) (z1 (zc (gd_tt b12) (z1 (zc (gd_tt b12) (z1 (zc (gd_ff b11) (zc b12 (z1 (zc b11 (z2 (zc (gd_ff b13) (z1 (zc (gd_ff b13) (z1 (zc (gd_ff b13) (z1 (zc (gd_ff b13) (z1 (zc (gd_tt b14) (z1 (zc (gd_tt b14) (z1 (zc (gd_tt b14) (z1 (zc (gd_ff b13) (zc b14 (z1 (zc b13 (z2 (zc (gd_tf b15) (zc (gd_tf b15) (zc (gd_tf b15) (zc (gd_tf b15) (z3 (zc (gd_tf b15) (z1 (zc b15 zt)))))))))))))))))))))))))))))))))))))))))))))))))))))) rfl ?_
  refine TL_nilQ ?_
  exact Exists.intro true (And.intro h (arr [] [119] [1] [] (by kernel_rfl)))
  replace h := ite_f b15 h
  rcases Bool.eq_false_or_eq_true (s_1.be == (-1)) with b16 | b16
  replace h := ite_t b16 h
  refine TL_part 34 (hl 34 [(1, (zd (B false))), (12, (zd (B true))), (13, (zd (B false))), (22, (zd (B true))), (23, (zd (B false))), (32, (zd (B true))), (33, (zd (B false)))]) (mk 120 [(1, (rf 1 0)), (81, (db (!(v_8)))), (85, (db (v_10))), (86, (db (!(v_10)))), (87, (db (!(v_10)))), (88, (db (!(v_10)))), (89, (rf 1 4)), (90, (di s_1.ab)), (91, (rf 1 5)), (92, (di s_1.be)), (93, (db (s_1.ab == s_1.be))), (94, (db (s_1.ab == s_1.be))), (95, (rf 1 4)), (96, (di s_1.ab)), (97, (db (s_1.ab != (-1)))), (98, (db (s_1.ab != (-1)))), (99, (db (s_1.ab != (-1)))), (100, (db (s_1.ab != (-1)))), (101, (rf 1 4)), (102, (di s_1.ab)), (103, (db (s_1.ab == (-1)))), (104, (db (s_1.ab == (-1)))), (105, (rf 1 2)), (106, (di s_1.u)), (107, (db (decide (s_1.u > 0)))), (108, (db (decide (s_1.u > 0)))), (109, (db (decide (s_1.u > 0)))), (110, (db (decide (s_1.u > 0)))), (111, (rf 1 5)), (112, (di s_1.be)), (113, (db (s_1.be == (-1)))), (114, (db (s_1.be == (-1)))), (115, (rf 1 3)), (116, (di s_1.d)), (117, (db (decide (s_1.d > 0)))), (118, (db (decide (s_1.d > 0)))), (119, (db (decide (s_1.d > 0))))] [(1, (.var (qSch s_1)))]) _ (by kernel_rfl) (zc (gd_ff b9) (z2 (zc b9 (z2 (zc (gd_ff b11) (z1 (zc (gd_ff b11) (z1 (zc (gd_ff b11) (z1 (zc (gd_ff b11) (z1 (zc (gd_ff b11) (z1 (zc (gd_ff b11) (z1 (zc (gd_tt b12) (z1 (zc (gd_tt b12) (z1 (zc (gd_tt b12) (z1 (zc (gd_ff b11) (zc b12 (z1 (zc b11 (z2 (zc (gd_ff b13) (z1 (zc (gd_ff b13) (z1 (zc (gd_ff b13) (z1 (zc (gd_ff b13) (z1 (zc (gd_tt b14) (z1 (zc (gd_tt b14) (z1 (zc (gd_tt b14) (z1 (zc (gd_ff b13) (zc b14 (z1 (zc b13 (z2 (zc (gd_ff b15) (z1 (zc (gd_ff b15) (z1 (zc (gd_ff b15) (z1 (zc (gd_ff b15) (z1 (zc (gd_tt b16) (z1 (zc (gd_tt b16) (z1 (zc (gd_tt b16) (z1 (zc (gd_ff b15) (zc b16 (z1 (zc b15 zt)))))))))))))))))))))))))))))))))))))))))))))))))))))))))))))))) rfl ?_
  refine TL_nilQ ?_
  exact Exists.intro (decide (s_1.d > 0)) (And.intro h (arr [] [119] [1] [] (by kernel_rfl)))
  replace h := ite_f b16 h
  refine TL_part 34 (hl 34 [(1, (zd (B false))), (12, (zd (B true))), (13, (zd (B false))), (22, (zd (B true))), (23, (zd (B false))), (29, zg), (30, zg), (31, zg), (32, (zd (B false))), (33, (zd (B false)))]) (mk 120 [(1, (rf 1 0)), (81, (db (!(v_8)))), (85, (db (v_10))), (86, (db (!(v_10)))), (87, (db (!(v_10)))), (88, (db (!(v_10)))), (89, (rf 1 4)), (90, (di s_1.ab)), (91, (rf 1 5)), (92, (di s_1.be)), (93, (db (s_1.ab == s_1.be))), (94, (db (s_1.ab == s_1.be))), (95, (rf 1 4)), (96, (di s_1.ab)), (97, (db (s_1.ab != (-1)))), (98, (db (s_1.ab != (-1)))), (99, (db (s_1.ab != (-1)))), (100, (db (s_1.ab != (-1)))), (101, (rf 1 4)), (102, (di s_1.ab)), (103, (db (s_1.ab == (-1)))), (104, (db (s_1.ab == (-1)))), (105, (rf 1 2)), (106, (di s_1.u)), (107, (db (decide (s_1.u > 0)))), (108, (db (decide (s_1.u > 0)))), (109, (db (decide (s_1.u > 0)))), (110, (db (decide (s_1.u > 0)))), (111, (rf 1 5)), (112, (di s_1.be)), (113, (db (s_1.be == (-1)))), (114, (db (s_1.be == (-1)))), (115, (dt (.tup []))), (116, (dt (.tup []))), (117, (dt (.tup []))), (118, (db false)), (119, (db false))] [(1, (.var (qSch s_1)))]) _ (by kernel_rfl) (zc (gd_ff b9) (z2 (zc b9 (z2 (zc (gd_ff b11) (z1 (zc (gd_ff b11) (z1 (zc (gd_ff b11) (z1 (zc (gd_ff b11) (z1 (zc (gd_ff b11) (z1 (zc (gd_ff b11) (z1 (zc (gd_tt b12) (z1 (zc (gd_tt b12) (z1 (zc (gd_tt b12) (z1 (zc (gd_ff b11) (zc b12 (z1 (zc b11 (z2 (zc (gd_ff b13) (z1 (zc (gd_ff b13) (z1 (zc (gd_ff b13) (z1 (zc (gd_ff b13) (z1 (zc (gd_tt b14) (z1 (zc (gd_tt b14) (z1 (zc (gd_tt b14) (z1 (zc (gd_ff b13) (zc b14 (z1 (zc b13 (z2 (zc (gd_ff b15) (z1 (zc (gd_ff b15) (z1 (zc (gd_ff b15) (z1 (zc (gd_ff b15) (z1 (zc (gd_ft b16) (zc (gd_ft b16) (zc (gd_ft b16) (zc (gd_ff b15) (zc b16 (z1 (zc b15 zt))))))))))))))))))))))))))))))))))))))))))))))))))))))))))))) rfl ?_
  refine TL_nilQ ?_
  exact Exists.intro false (And.intro h (arr [] [119] [1] [] (by kernel_rfl)))
  replace h := ite_f b14 h
  rcases Bool.eq_false_or_eq_true (s_1.be == (-1)) with b17 | b17
  replace h := ite_t b17 h
  refine TL_part 34 (hl 34 [(1, (zd (B false))), (12, (zd (B true))), (13, (zd (B false))), (19, zg), (20, zg), (21, zg), (22, (zd (B false))), (23, (zd (B false))), (32, (zd (B true))), (33, (zd (B false)))]) (mk 120 [(1, (rf 1 0)), (81, (db (!(v_8)))), (85, (db (v_10))), (86, (db (!(v_10)))), (87, (db (!(v_10)))), (88, (db (!(v_10)))), (89, (rf 1 4)), (90, (di s_1.ab)), (91, (rf 1 5)), (92, (di s_1.be)), (93, (db (s_1.ab == s_1.be))), (94, (db (s_1.ab == s_1.be))), (95, (rf 1 4)), (96, (di s_1.ab)), (97, (db (s_1.ab != (-1)))), (98, (db (s_1.ab != (-1)))), (99, (db (s_1.ab != (-1)))), (100, (db (s_1.ab != (-1)))), (101, (rf 1 4)), (102, (di s_1.ab)), (103, (db (s_1.ab == (-1)))), (104, (db (s_1.ab == (-1)))), (105, (dt (.tup []))), (106, (dt (.tup []))), (107, (dt (.tup []))), (108, (db false)), (109, (db false)), (110, (db false)), (111, (rf 1 5)), (112, (di s_1.be)), (113, (db (s_1.be == (-1)))), (114, (db (s_1.be == (-1)))), (115, (rf 1 3)), (116, (di s_1.d)), (117, (db (decide (s_1.d > 0)))), (118, (db (decide (s_1.d > 0)))), (119, (db (decide (s_1.d > 0))))] [(1, (.var (qSch s_1)))]) _ (by kernel_rfl) (zc (gd_ff b9) (z2 (zc b9 (z2 (zc (gd_ff b11) (z1 (zc (gd_ff b11) (z1 (zc (gd_ff b11) (z1 (zc (gd_ff b11) (z1 (zc (gd_ff b11) (z1 (zc (gd_ff b11) (z1 (zc (gd_tt b12) (z1 (zc (gd_tt b12) (z1 (zc (gd_tt b12) (z1 (zc (gd_ff b11) (zc b12 (z1 (zc b11 (z2 (zc (gd_ff b13) (z1 (zc (gd_ff b13) (z1 (zc (gd_ff b13) (z1 (zc (gd_ff b13) (z1 (zc (gd_ft b14) (zc (gd_ft b14) (zc (gd_ft b14) (zc (gd_ff b13) (zc b14 (z1 (zc b13 (z2 (zc (gd_ff (rfl : false = false)) (z1 (zc (gd_ff (rfl : false = false)) (z1 (zc (gd_ff (rfl : false = false)) (z1 (zc (gd_ff (rfl : false = false)) (z1 (zc (gd_tt b17) (z1 (zc (gd_tt b17) (z1 (zc (gd_tt b17) (z1 (zc (gd_ff (rfl : false = false)) (zc b17 (z1 (zc (rfl : false = false) zt))))))))))))))))))))))))))))))))))))))))))))))))))))))))))))) rfl ?_
  refine TL_nilQ ?_
  exact Exists.intro (decide (s_1.d > 0)) (And.intro h (arr [] [119] [1] [] (by kernel_rfl)))
  replace h := ite_f b17 h
  refine TL_part 34 [zn, (zd (B false)), zn, zn, zn, zn, zn, zn, zn, zn, zn, zn, (zd (B true)), (zd (B false)), zn, zn, zn, zn, zn, zg, zg, zg, (zd (B false)), (zd (B false)), zn, zn, zn, zn, zn, zg, zg, zg, (zd (B false)), (zd (B false))] (mk 120 [(1, (rf 1 0)), (81, (db (!(v_8)))), (85, (db (v_10))), (86, (db (!(v_10)))), (87, (db (!(v_10)))), (88, (db (!(v_10)))), (89, (rf 1 4)), (90, (di s_1.ab)), (91, (rf 1 5)), (92, (di s_1.be)), (93, (db (s_1.ab == s_1.be))), (94, (db (s_1.ab == s_1.be))), (95, (rf 1 4)), (96, (di s_1.ab)), (97, (db (s_1.ab != (-1)))), (98, (db (s_1.ab != (-1)))), (99, (db (s_1.ab != (-1)))), (100, (db (s_1.ab != (-1)))), (101, (rf 1 4)), (102, (di s_1.ab)), (103, (db (s_1.ab == (-1)))), (104, (db (s_1.ab == (-1)))), (105, (dt (.tup []))), (106, (dt (.tup []))), (107, (dt (.tup []))), (108, (db false)), (109, (db false)), (110, (db false)), (111, (rf 1 5)), (112, (di s_1.be)), (113, (db (s_1.be == (-1)))), (114, (db (s_1.be == (-1)))), (115, (dt (.tup []))), (116, (dt (.tup []))), (117, (dt (.tup []))), (118, (db false)), (119, (db false))] [(1, (.var (qSch s_1)))]) _ (by kernel_rfl) (zc (gd_ff b9) (z2 (zc b9 (z2 (zc (gd_ff b11) (z1 (zc (gd_ff b11) (z1 (zc (gd_ff b11) (z1 (zc (gd_ff b11) (z1 (zc (gd_ff b11) (z1 (zc (gd_ff b11) (z1 (zc (gd_tt b12) (z1 (zc (gd_tt b12) (z1 (zc (gd_tt b12) (z1 (zc (gd_ff b11) (zc b12 (z1 (zc b11 (z2 (zc (gd_ff b13) (z1 (zc (gd_ff b13) (z1 (zc (gd_ff b13) (z1 (zc (gd_ff b13) (z1 (zc (gd_ft b14) (zc (gd_ft b14) (zc (gd_ft b14) (zc (gd_ff b13) (zc b14 (z1 (zc b13 (z2 (zc (gd_ff (rfl : false = false)) (z1 (zc (gd_ff (rfl : false = false)) (z1 (zc (gd_ff (rfl : false = false)) (z1 (zc (gd_ff (rfl : false = false)) (z1 (zc (gd_ft b17) (zc (gd_ft b17) (zc (gd_ft b17) (zc (gd_ff (rfl : false = false)) (zc b17 (z1 (zc (rfl : false = false) zt)))))))))))))))))))))))))))))))))))))))))))))))))))))))))) rfl ?_
  refine TL_nilQ ?_
  exact Exists.intro false (And.intro h (arr [] [119] [1] [] (by kernel_rfl)))
  replace h := ite_f b12 h
  rcases Bool.eq_false_or_eq_true (s_1.ab == (-1)) with b18 | b18
  replace h := ite_t b18 h
  rcases Bool.eq_false_or_eq_true (decide (s_1.u > 0)) with b19 | b19
  replace h := ite_t b19 h
  refine TL_part 34 [zn, (zd (B false)), zn, zn, zn, zn, zn, zn, zn, zg, zg, zg, (zd (B false)), (zd (B false)), zn, zn, zn, zn, zn, zn, zn, zn, (zd (B true)), (zd (B false)), zn, zg, zg, zg, zg, zn, zn, zn, zg, (zd (B true))] (mk 120 [(1, (rf 1 0)), (81, (db (!(v_8)))), (85, (db (v_10))), (86, (db (!(v_10)))), (87, (db (!(v_10)))), (88, (db (!(v_10)))), (89, (rf 1 4)), (90, (di s_1.ab)), (91, (rf 1 5)), (92, (di s_1.be)), (93, (db (s_1.ab == s_1.be))), (94, (db (s_1.ab == s_1.be))), (95, (dt (.tup []))), (96, (dt (.tup []))), (97, (dt (.tup []))), (98, (db false)), (99, (db false)), (100, (db false)), (101, (rf 1 4)), (102, (di s_1.ab)), (103, (db (s_1.ab == (-1)))), (104, (db (s_1.ab == (-1)))), (105, (rf 1 2)), (106, (di s_1.u)), (107, (db (decide (s_1.u > 0)))), (108, (db (decide (s_1.u > 0)))), (109, (db (decide (s_1.u > 0)))), (110, (db (decide (s_1.u > 0)))), (111, (dt (.tup []))), (112, (dt (.tup []))), (113, (dt (.tup []))), (114, (dt (.tup []))), (115, (dt (.tup []))), (116, (dt (.tup []))), (117, (dt (.tup []))), (118, (dt (.tup []))), (119, (db true))] [(1, (.var (qSch s_1)))]) _ (by kernel_rfl) (zc (gd_ff b9) (z2 (zc b9 (z2 (zc (gd_ff b11) (z1 (zc (gd_ff b11) (z1 (zc (gd_ff b11) (z1 (zc (gd_ff b11) (z1 (zc (gd_ff b11) (z1 (zc (gd_ff b11) (z1 (zc (gd_ft b12) (zc (gd_ft b12) (zc (gd_ft b12) (zc (gd_ff b11) (zc b12 (z1 (zc b11 (z2 (zc (gd_ff (rfl : false = false)) (z1 (zc (gd_ff (rfl : false = false)) (z1 (zc (gd_ff (rfl : false = false)) (z1 (zc (gd_ff (rfl : false = false)) (z1 (zc (gd_tt b18) (z1 (zc (gd_tt b18) (z1 (zc (gd_tt b18) (z1 (zc (gd_ff (rfl : false = false)) (zc b18 (z1 (zc (rfl : false = false) (z2 (zc (gd_tf b19) (zc (gd_tf b19) (zc (gd_tf b19) (zc (gd_tf b19) (z3 (zc (gd_tf b19) (z1 (zc b19 zt))))))))))))))))))))))))))))))))))))))))))))))))))) rfl ?_
  refine TL_nilQ ?_
  exact Exists.intro true (And.intro h (arr [] [119] [1] [] (by kernel_rfl)))
  replace h := ite_f b19 h
  rcases Bool.eq_false_or_eq_true (s_1.be == (-1)) with b20 | b20
  replace h := ite_t b20 h
  refine TL_part 34 (hl 34 [(1, (zd (B false))), (9, zg), (10, zg), (11, zg), (12, (zd (B false))), (13, (zd (B false))), (22, (zd (B true))), (23, (zd (B false))), (32, (zd (B true))), (33, (zd (B false)))]) (mk 120 [(1, (rf 1 0)), (81, (db (!(v_8)))), (85, (db (v_10))), (86, (db (!(v_10)))), (87, (db (!(v_10)))), (88, (db (!(v_10)))), (89, (rf 1 4)), (90, (di s_1.ab)), (91, (rf 1 5)), (92, (di s_1.be)), (93, (db (s_1.ab == s_1.be))), (94, (db (s_1.ab == s_1.be))), (95, (dt (.tup []))), (96, (dt (.tup []))), (97, (dt (.tup []))), (98, (db false)), (99, (db false)), (100, (db false)), (101, (rf 1 4)), (102, (di s_1.ab)), (103, (db (s_1.ab == (-1)))), (104, (db (s_1.ab == (-1)))), (105, (rf 1 2)), (106, (di s_1.u)), (107, (db (decide (s_1.u > 0)))), (108, (db (decide (s_1.u > 0)))), (109, (db (decide (s_1.u > 0)))), (110, (db (decide (s_1.u > 0)))), (111, (rf 1 5)), (112, (di s_1.be)), (113, (db (s_1.be == (-1)))), (114, (db (s_1.be == (-1)))), (115, (rf 1 3)), (116, (di s_1.d)), (117, (db (decide (s_1.d > 0)))), (118, (db (decide (s_1.d > 0)))), (119, (db (decide (s_1.d > 0))))] [(1, (.var (qSch s_1)))]) _ (by kernel_rfl) (zc (gd_ff b9) (z2 (zc b9 (z2 (zc (gd_ff b11) (z1 (zc (gd_ff b11) (z1 (zc (gd_ff b11) (z1 (zc (gd_ff b11) (z1 (zc (gd_ff b11) (z1 (zc (gd_ff b11) (z1 (zc (gd_ft b12) (zc (gd_ft b12) (zc (gd_ft b12) (zc (gd_ff b11) (zc b12 (z1 (zc b11 (z2 (zc (gd_ff (rfl : false = false)) (z1 (zc (gd_ff (rfl : false = false)) (z1 (zc (gd_ff (rfl : false = false)) (z1 (zc (gd_ff (rfl : false = false)) (z1 (zc (gd_tt b18) (z1 (zc (gd_tt b18) (z1 (zc (gd_tt b18) (z1 (zc (gd_ff (rfl : false = false)) (zc b18 (z1 (zc (rfl : false = false) (z2 (zc (gd_ff b19) (z1 (zc (gd_ff b19) (z1 (zc (gd_ff b19) (z1 (zc (gd_ff b19) (z1 (zc (gd_tt b20) (z1 (zc (gd_tt b20) (z1 (zc (gd_tt b20) (z1 (zc (gd_ff b19) (zc b20 (z1 (zc b19 zt))))))))))))))))))))))))))))))))))))))))))))))))))))))))))))) rfl ?_
  refine TL_nilQ ?_
  exact Exists.intro (decide (s_1.d > 0)) (And.intro h (arr [] [119] [1] [] (by kernel_rfl)))
  replace h := ite_f b20 h
  refine TL_part 34 [zn, (zd (B false)), zn, zn, zn, zn, zn, zn, zn, zg, zg, zg, (zd (B false)), (zd (B false)), zn, zn, zn, zn, zn, zn, zn, zn, (zd (B true)), (zd (B false)), zn, zn, zn, zn, zn, zg, zg, zg, (zd (B false)), (zd (B false))] (mk 120 [(1, (rf 1 0)), (81, (db (!(v_8)))), (85, (db (v_10))), (86, (db (!(v_10)))), (87, (db (!(v_10)))), (88, (db (!(v_10)))), (89, (rf 1 4)), (90, (di s_1.ab)), (91, (rf 1 5)), (92, (di s_1.be)), (93, (db (s_1.ab == s_1.be))), (94, (db (s_1.ab == s_1.be))), (95, (dt (.tup []))), (96, (dt (.tup []))), (97, (dt (.tup []))), (98, (db false)), (99, (db false)), (100, (db false)), (101, (rf 1 4)), (102, (di s_1.ab)), (103, (db (s_1.ab == (-1)))), (104, (db (s_1.ab == (-1)))), (105, (rf 1 2)), (106, (di s_1.u)), (107, (db (decide (s_1.u > 0)))), (108, (db (decide (s_1.u > 0)))), (109, (db (decide (s_1.u > 0)))), (110, (db (decide (s_1.u > 0)))), (111, (rf 1 5)), (112, (di s_1.be)), (113, (db (s_1.be == (-1)))), (114, (db (s_1.be == (-1)))), (115, (dt (.tup []))), (116, (dt (.tup []))), (117, (dt (.tup []))), (118, (db false)), (119, (db false))] [(1, (.var (qSch s_1)))]) _ (by kernel_rfl) (zc (gd_ff b9) (z2 (zc b9 (z2 (zc (gd_ff b11) (z1 (zc (gd_ff b11) (z1 (zc (gd_ff b11) (z1 (zc (gd_ff b11) (z1 (zc (gd_ff b11) (z1 (zc (gd_ff b11) (z1 (zc (gd_ft b12) (zc (gd_ft b12) (zc (gd_ft b12) (zc (gd_ff b11) (zc b12 (z1 (zc b11 (z2 (zc (gd_ff (rfl : false = false)) (z1 (zc (gd_ff (rfl : false = false)) (z1 (zc (gd_ff (rfl : false = false)) (z1 (zc (gd_ff (rfl : false = false)) (z1 (zc (gd_tt b18) (z1 (zc (gd_tt b18) (z1 (zc (gd_tt b18) (z1 (zc (gd_ff (rfl : false = false)) (zc b18 (z1 (zc (rfl : false = false) (z2 (zc (gd_ff b19) (z1 (zc (gd_ff b19) (z1 (zc (gd_ff b19) (z1 (zc (gd_ff b19) (z1 (zc (gd_ft b20) (zc (gd_ft b20) (zc (gd_ft b20) (zc (gd_ff b19) (zc b20 (z1 (zc b19 zt)))))))))))))))))))))))))))))))))))))))))))))))))))))))))) rfl ?_
  refine TL_nilQ ?_
  exact Exists.intro false (And.intro h (arr [] [119] [1] [] (by kernel_rfl)))
  replace h := ite_f b18 h
  rcases Bool.eq_false_or_eq_true (s_1.be == (-1)) with b21 | b21
  replace h := ite_t b21 h
  refine TL_part 34 [zn, (zd (B false)), zn, zn, zn, zn, zn, zn, zn, zg, zg, zg, (zd (B false)), (zd (B false)), zn, zn, zn, zn, zn, zg, zg, zg, (zd (B false)), (zd (B false)), zn, zn, zn, zn, zn, zn, zn, zn, (zd (B true)), (zd (B false))] (mk 120 [(1, (rf 1 0)), (81, (db (!(v_8)))), (85, (db (v_10))), (86, (db (!(v_10)))), (87, (db (!(v_10)))), (88, (db (!(v_10)))), (89, (rf 1 4)), (90, (di s_1.ab)), (91, (rf 1 5)), (92, (di s_1.be)), (93, (db (s_1.ab == s_1.be))), (94, (db (s_1.ab == s_1.be))), (95, (dt (.tup []))), (96, (dt (.tup []))), (97, (dt (.tup []))), (98, (db false)), (99, (db false)), (100, (db false)), (101, (rf 1 4)), (102, (di s_1.ab)), (103, (db (s_1.ab == (-1)))), (104, (db (s_1.ab == (-1)))), (105, (dt (.tup []))), (106, (dt (.tup []))), (107, (dt (.tup []))), (108, (db false)), (109, (db false)), (110, (db false)), (111, (rf 1 5)), (112, (di s_1.be)), (113, (db (s_1.be == (-1)))), (114, (db (s_1.be == (-1)))), (115, (rf 1 3)), (116, (di s_1.d)), (117, (db (decide (s_1.d > 0)))), (118, (db (decide (s_1.d > 0)))), (119, (db (decide (s_1.d > 0))))] [(1, (.var (qSch s_1)))]) _ (by kernel_rfl) (zc (gd_ff b9) (z2 (zc b9 (z2 (zc (gd_ff b11) (z1 (zc (gd_ff b11) (z1 (zc (gd_ff b11) (z1 (zc (gd_ff b11) (z1 (zc (gd_ff b11) (z1 (zc (gd_ff b11) (z1 (zc (gd_ft b12) (zc (gd_ft b12) (zc (gd_ft b12) (zc (gd_ff b11) (zc b12 (z1 (zc b11 (z2 (zc (gd_ff (rfl : false = false)) (z1 (zc (gd_ff (rfl : false = false)) (z1 (zc (gd_ff (rfl : false = false)) (z1 (zc (gd_ff (rfl : false = false)) (z1 (zc (gd_ft b18) (zc (gd_ft b18) (zc (gd_ft b18) (zc (gd_ff (rfl : false = false)) (zc b18 (z1 (zc (rfl : false = false) (z2 (zc (gd_ff (rfl : false = false)) (z1 (zc (gd_ff (rfl : false = false)) (z1 (zc (gd_ff (rfl : false = false)) (z1 (zc (gd_ff (rfl : false = false)) (z1 (zc (gd_tt b21) (z1 (zc (gd_tt b21) (z1 (zc (gd_tt b21) (z1 (zc (gd_ff (rfl : false = false)) (zc b21 (z1 (zc (rfl : false = false) zt)))))))))))))))))))))))))))))))))))))))))))))))))))))))))) rfl ?_
  refine TL_nilQ ?_
  exact Exists.intro (decide (s_1.d > 0)) (And.intro h (arr [] [119] [1] [] (by kernel_rfl)))
  replace h := ite_f b21 h
  refine TL_part 34 [zn, (zd (B false)), zn, zn, zn, zn, zn, zn, zn, zg, zg, zg, (zd (B false)), (zd (B false)), zn, zn, zn, zn, zn, zg, zg, zg, (zd (B false)), (zd (B false)), zn, zn, zn, zn, zn, zg, zg, zg, (zd (B false)), (zd (B false))] (mk 120 [(1, (rf 1 0)), (81, (db (!(v_8)))), (85, (db (v_10))), (86, (db (!(v_10)))), (87, (db (!(v_10)))), (88, (db (!(v_10)))), (89, (rf 1 4)), (90, (di s_1.ab)), (91, (rf 1 5)), (92, (di s_1.be)), (93, (db (s_1.ab == s_1.be))), (94, (db (s_1.ab == s_1.be))), (95, (dt (.tup []))), (96, (dt (.tup []))), (97, (dt (.tup []))), (98, (db false)), (99, (db false)), (100, (db false)), (101, (rf 1 4)), (102, (di s_1.ab)), (103, (db (s_1.ab == (-1)))), (104, (db (s_1.ab == (-1)))), (105, (dt (.tup []))), (106, (dt (.tup []))), (107, (dt (.tup []))), (108, (db false)), (109, (db false)), (110, (db false)), (111, (rf 1 5)), (112, (di s_1.be)), (113, (db (s_1.be == (-1)))), (114, (db (s_1.be == (-1)))), (115, (dt (.tup []))), (116, (dt (.tup []))), (117, (dt (.tup []))), (118, (db false)), (119, (db false))] [(1, (.var (qSch s_1)))]) _ (by kernel_rfl) (zc (gd_ff b9) (z2 (zc b9 (z2 (zc (gd_ff b11) (z1 (zc (gd_ff b11) (z1 (zc (gd_ff b11) (z1 (zc (gd_ff b11) (z1 (zc (gd_ff b11) (z1 (zc (gd_ff b11) (z1 (zc (gd_ft b12) (zc (gd_ft b12) (zc (gd_ft b12) (zc (gd_ff b11) (zc b12 (z1 (zc b11 (z2 (zc (gd_ff (rfl : false = false)) (z1 (zc (gd_ff (rfl : false = false)) (z1 (zc (gd_ff (rfl : false = false)) (z1 (zc (gd_ff (rfl : false = false)) (z1 (zc (gd_ft b18) (zc (gd_ft b18) (zc (gd_ft b18) (zc (gd_ff (rfl : false = false)) (zc b18 (z1 (zc (rfl : false = false) (z2 (zc (gd_ff (rfl : false = false)) (z1 (zc (gd_ff (rfl : false = false)) (z1 (zc (gd_ff (rfl : false = false)) (z1 (zc (gd_ff (rfl : false = false)) (z1 (zc (gd_ft b21) (zc (gd_ft b21) (zc (gd_ft b21) (zc (gd_ff (rfl : false = false)) (zc b21 (z1 (zc (rfl : false = false) zt))))))))))))))))))))))))))))))))))))))))))))))))))))))) rfl ?_
  refine TL_nilQ ?_
  exact Exists.intro false (And.intro h (arr [] [119] [1] [] (by kernel_rfl)))
  refine TL_inline 120 34 [.inl 3, .inl 1] Try.f34 _ rfl rfl (by kernel_rfl) Try.func34 rfl rfl (by decide) ?_
  refine T_turn [] [0, 1, 2] [] (mk 14 [(0, (di s_1.be)), (1, (rf 3 0)), (2, (rf 1 0))] [(1, (.var (qSch s_1))), (3, (.var [(.fn 33 [])]))]) (by kernel_rfl) ?_
  refine T_reg [] [0, 1, 2] [] (mk 14 [(0, (di s_1.be)), (1, (rf 3 0)), (2, (rf 1 0))] [(1, (.var (qSch s_1))), (3, (.var [(.fn 33 [])]))]) _ (by kernel_rfl) (z2 zt) ?_
  obtain ⟨r_22, e23, h⟩ := bd_inv h
  rcases Bool.eq_false_or_eq_true (r_22) with b24 | b24
  replace h := ite_t b24 h
  refine T_reg (hl 9 [(2, (zd (B (r_22)))), (8, (zd (B true)))]) [4] [3] (mk 14 [(4, (db (s_1.be != s_1.c)))] [(1, (.var (qSch s_1)))]) _ (by kernel_rfl) (z5 (zc (g_prizes_Check_1_ret e23) (z2 (zc (gd_tt b24) (z1 (zc (gd_tt b24) (z1 (zc (gd_tt b24) (z1 (zc (gd_tt b24) (z2 (zc b24 (z2 zt))))))))))))) ?_
  refine T_ret ?_
  refine ⟨[(db (s_1.be != s_1.c))], by kernel_rfl, ?_⟩
  refine TL_nilQ ?_
  exact Exists.intro (s_1.be != s_1.c) (And.intro h (arr [] [1, 81, 85] [] [1] (by kernel_rfl)))
  replace h := ite_f b24 h
  refine T_reg [zn, zn, (zd (B (r_22))), zn, zg, zg, zg, zg, (zd (B false))] [4] [3] (mk 14 [(4, (db false))] [(1, (.var (qSch s_1)))]) _ (by kernel_rfl) (z5 (zc (g_prizes_Check_1_ret e23) (z2 (zc (gd_ft b24) (zc (gd_ft b24) (zc (gd_ft b24) (zc (gd_ft b24) (z1 (zc b24 (z2 zt)))))))))) ?_
  refine T_ret ?_
  refine ⟨[(db false)], by kernel_rfl, ?_⟩
  refine TL_nilQ ?_
  exact Exists.intro false (And.intro h (arr [] [1, 81, 85] [] [1] (by kernel_rfl)))
  refine TL_inline 120 34 [.inl 3, .inl 1] Try.f34 _ rfl rfl (by kernel_rfl) Try.func34 rfl rfl (by decide) ?_
  refine T_turn [] [0, 1, 2] [] (mk 14 [(0, (di s_1.ab)), (1, (rf 3 0)), (2, (rf 1 0))] [(1, (.var (qSch s_1))), (3, (.var [(.fn 33 [])]))]) (by kernel_rfl) ?_
  refine T_reg [] [0, 1, 2] [] (mk 14 [(0, (di s_1.ab)), (1, (rf 3 0)), (2, (rf 1 0))] [(1, (.var (qSch s_1))), (3, (.var [(.fn 33 [])]))]) _ (by kernel_rfl) (z2 zt) ?_
  obtain ⟨r_25, e26, h⟩ := bd_inv h
  rcases Bool.eq_false_or_eq_true (r_25) with b27 | b27
  replace h := ite_t b27 h
  refine T_reg (hl 9 [(2, (zd (B (r_25)))), (8, (zd (B true)))]) [4] [] (mk 14 [(4, (db (s_1.ab != s_1.c)))] [(1, (.var (qSch s_1))), (3, (.var [(.fn 33 [])]))]) _ (by kernel_rfl) (z5 (zc (g_prizes_Check_1_ret e26) (z2 (zc (gd_tt b27) (z1 (zc (gd_tt b27) (z1 (zc (gd_tt b27) (z1 (zc (gd_tt b27) (z2 (zc b27 (z2 zt))))))))))))) ?_
  refine T_ret ?_
  refine ⟨[(db (s_1.ab != s_1.c))], by kernel_rfl, ?_⟩
  refine TL_nilQ ?_
  exact Exists.intro (s_1.ab != s_1.c) (And.intro h (arr [] [1, 4, 74, 78] [] [1, 3] (by kernel_rfl)))
  replace h := ite_f b27 h
  refine T_reg [zn, zn, (zd (B (r_25))), zn, zg, zg, zg, zg, (zd (B false))] [4] [] (mk 14 [(4, (db false))] [(1, (.var (qSch s_1))), (3, (.var [(.fn 33 [])]))]) _ (by kernel_rfl) (z5 (zc (g_prizes_Check_1_ret e26) (z2 (zc (gd_ft b27) (zc (gd_ft b27) (zc (gd_ft b27) (zc (gd_ft b27) (z1 (zc b27 (z2 zt)))))))))) ?_
  refine T_ret ?_
  refine ⟨[(db false)], by kernel_rfl, ?_⟩
  refine TL_nilQ ?_
  exact Exists.intro false (And.intro h (arr [] [1, 4, 74, 78] [] [1, 3] (by kernel_rfl)))
  refine T_reg [zn, zn, (zd (I ((s_1.p.length : Nat) : Int)))] [1, 3, 4, 5, 6, 36, 37, 38] [] (mk 120 [(1, (rf 1 0)), (3, (rf 3 0)), (4, (.one (.fn 34 [.inl 3, .inl 1]))), (5, (di 0)), (6, (di 0)), (36, (dt (.sl 3 (s_1.p.map encPrize)))), (37, (di ((s_1.p.length : Nat) : Int))), (38, (di 0))] [(1, (.var (qSch s_1))), (3, (.var [(.fn 33 [])]))]) _ (by kernel_rfl) (z5 (zc (len_s encPrize s_1.p) (z2 zt))) ?_
  refine T_block ?_
  refine T_arr [] [1, 3, 4, 5, 6, 36, 37, 38] [] [1, 3] _ (by kernel_rfl) (T_loopO (σ := Int × Int × Nat) (fun ((sum_28, last_29, v_30) : Int × Int × Nat) => (mk 120 [(1, (rf 1 0)), (3, (rf 3 0)), (4, (.one (.fn 34 [.inl 3, .inl 1]))), (5, (di sum_28)), (6, (di last_29)), (36, (dt (.sl 3 (s_1.p.map encPrize)))), (37, (di ((s_1.p.length : Nat) : Int))), (38, (di ((v_30 : Nat) : Int)))] [(1, (.var (qSch s_1))), (3, (.var [(.fn 33 [])]))])) (g_prizes_Check_l6 s_1) (0, 0, 0) h (fun v y1 hy1 h => ?_))
  obtain ⟨sum_28, last_29, v_30⟩ := v
  refine T_reg [] [1, 3, 4, 5, 6, 36, 37, 38, 39] [] (mk 120 [(1, (rf 1 0)), (3, (rf 3 0)), (4, (.one (.fn 34 [.inl 3, .inl 1]))), (5, (di sum_28)), (6, (di last_29)), (36, (dt (.sl 3 (s_1.p.map encPrize)))), (37, (di ((s_1.p.length : Nat) : Int))), (38, (di ((v_30 : Nat) : Int))), (39, (db (decide (((v_30 : Nat) : Int) < ((s_1.p.length : Nat) : Int)))))] [(1, (.var (qSch s_1))), (3, (.var [(.fn 33 [])]))]) _ (by kernel_rfl) (z2 zt) ?_
  refine T_seq ?_
  refine T_cond (decide (((v_30 : Nat) : Int) < ((s_1.p.length : Nat) : Int))) (by kernel_rfl) (fun b34 => ?_) (fun b34 => ?_)
  replace h := ite_t b34 h
  refine T_skip ?_
  refine T_seq ?_
  refine T_block ?_
  obtain ⟨x_35, e36, e37, e38, h⟩ := gn_inv encPrize h
  refine T_reg [(zd (encPrize x_35))] [1, 3, 4, 5, 6, 8, 36, 37, 38] [] (mk 120 [(1, (rf 1 0)), (3, (rf 3 0)), (4, (.one (.fn 34 [.inl 3, .inl 1]))), (5, (di sum_28)), (6, (di last_29)), (8, (rf 8 0)), (36, (dt (.sl 3 (s_1.p.map encPrize)))), (37, (di ((s_1.p.length : Nat) : Int))), (38, (di ((v_30 : Nat) : Int)))] [(8, (.var (qPrize x_35))), (1, (.var (qSch s_1))), (3, (.var [(.fn 33 [])]))]) _ (by kernel_rfl) (z1 (zc e36 (z6 zt))) ?_
  refine T_seq ?_
  refine T_seqJ (α := Bool) (fun (v_39 : Bool) => (mk 120 [(1, (rf 1 0)), (3, (rf 3 0)), (4, (.one (.fn 34 [.inl 3, .inl 1]))), (5, (di sum_28)), (8, (rf 8 0)), (36, (dt (.sl 3 (s_1.p.map encPrize)))), (37, (di ((s_1.p.length : Nat) : Int))), (38, (di ((v_30 : Nat) : Int))), (64, (db (v_39)))] [(1, (.var (qSch s_1))), (3, (.var [(.fn 33 [])])), (8, (.var (qPrize x_35)))])) (fun (v_39 : Bool) => g_prizes_Check_j7 sum_28 x_35 v_30 s_1 v_39 = some y1) (fun v_39 h => ?_) ?_
  refine T_cond (v_39) (by kernel_rfl) (fun b40 => ?_) (fun b40 => ?_)
  replace h := ite_t b40 h
  refine T_reg [] [2] [1, 3, 8] (mk 120 [(2, (di 420))] []) _ (by kernel_rfl) (z2 zt) ?_
  refine T_ret ?_
  replace h := up_inv h hy1
  obtain rfl := some_inv h
  exact ret_here [(di 420)] (by kernel_rfl) (.inl rfl)
  replace h := ite_f b40 h
  refine T_skip ?_
  refine T_reg [] [1, 3, 4, 5, 6, 8, 36, 37, 38] [] (mk 120 [(1, (rf 1 0)), (3, (rf 3 0)), (4, (.one (.fn 34 [.inl 3, .inl 1]))), (5, (di sum_28)), (6, (di x_35.t)), (8, (rf 8 0)), (36, (dt (.sl 3 (s_1.p.map encPrize)))), (37, (di ((s_1.p.length : Nat) : Int))), (38, (di ((v_30 : Nat) : Int)))] [(1, (.var (qSch s_1))), (3, (.var [(.fn 33 [])])), (8, (.var (qPrize x_35)))]) _ (by kernel_rfl) (z6 zt) ?_
  obtain ⟨c41, h⟩ := ckI_inv h
  refine T_regE [zn, zn, zn, (zd (I (sum_28 + x_35.a)))] (mk 120 [(1, (rf 1 0)), (3, (rf 3 0)), (4, (.one (.fn 34 [.inl 3, .inl 1]))), (5, (di (sum_28 + x_35.a))), (6, (di x_35.t)), (8, (rf 8 0)), (36, (dt (.sl 3 (s_1.p.map encPrize)))), (37, (di ((s_1.p.length : Nat) : Int))), (38, (di ((v_30 : Nat) : Int))), (67, (di sum_28)), (68, (rf 8 2)), (69, (di x_35.a)), (70, (di (sum_28 + x_35.a)))] [(1, (.var (qSch s_1))), (3, (.var [(.fn 33 [])])), (8, (.var (qPrize x_35)))]) _ (by kernel_rfl) (z7 (zc c41 (z2 zt))) ?_
  obtain ⟨c42, h⟩ := ckI_inv h
  exact T_regJ [(zd (I ((v_30 + 1 : Nat) : Int)))] [] [1, 3, 4, 5, 6, 36, 37, 38] [8] [1, 3] _ _ (by kernel_rfl) (z1 (zc c42 (z2 zt))) (fun s hs => Exists.intro ((sum_28 + x_35.a), x_35.t, v_30 + 1) (And.intro h hs))
  rcases Bool.eq_false_or_eq_true (decide (x_35.f ≤ last_29)) with b43 | b43
  replace h := ite_t b43 h
  exact T_regJ [zn, zn, zn, zn, zn, zg, zg, zg, zg, zg, (zd (B true)), zn, zg, zg, zg, (zd (B true)), zn, zg, zg, zg, zg, zg, (zd (B true))] [] [1, 3, 4, 5, 8, 36, 37, 38, 64] [] [1, 3, 8] _ _ (by kernel_rfl) (z8 (z2 (zc (gd_tf b43) (zc (gd_tf b43) (zc (gd_tf b43) (zc (gd_tf b43) (zc (gd_tf b43) (z1 (zc b43 (z2 (zc (gd_tf (rfl : true = true)) (zc (gd_tf (rfl : true = true)) (zc (gd_tf (rfl : true = true)) (z1 (zc (rfl : true = true) (z2 (zc (gd_tf (rfl : true = true)) (zc (gd_tf (rfl : true = true)) (zc (gd_tf (rfl : true = true)) (zc (gd_tf (rfl : true = true)) (zc (gd_tf (rfl : true = true)) (z1 (zc (rfl : true = true) zt))))))))))))))))))))))) (fun s hs => Exists.intro true (And.intro h hs))
  replace h := ite_f b43 h
  rcases Bool.eq_false_or_eq_true (decide (x_35.t < x_35.f)) with b44 | b44
  replace h := ite_t b44 h
  exact T_regJ [zn, zn, zn, zn, zn, zn, zn, zn, zn, zn, (zd (B false)), zn, zg, zg, zg, (zd (B true)), zn, zg, zg, zg, zg, zg, (zd (B true))] [] [1, 3, 4, 5, 8, 36, 37, 38, 64] [] [1, 3, 8] _ _ (by kernel_rfl) (z8 (z2 (zc (gd_ff b43) (z1 (zc (gd_ff b43) (z1 (zc (gd_ff b43) (z1 (zc (gd_ff b43) (z1 (zc (gd_ff b43) (z2 (zc b43 (z2 (zc (gd_tf b44) (zc (gd_tf b44) (zc (gd_tf b44) (z1 (zc b44 (z2 (zc (gd_tf (rfl : true = true)) (zc (gd_tf (rfl : true = true)) (zc (gd_tf (rfl : true = true)) (zc (gd_tf (rfl : true = true)) (zc (gd_tf (rfl : true = true)) (z1 (zc (rfl : true = true) zt))))))))))))))))))))))))))) (fun s hs => Exists.intro true (And.intro h hs))
  replace h := ite_f b44 h
  rcases Bool.eq_false_or_eq_true (decide (x_35.t > 24)) with b45 | b45
  replace h := ite_t b45 h
  exact T_regJ (hl 23 [(10, (zd (B false))), (15, (zd (B false))), (17, zg), (18, zg), (19, zg), (20, zg), (21, zg), (22, (zd (B true)))]) [] [1, 3, 4, 5, 8, 36, 37, 38, 64] [] [1, 3, 8] _ _ (by kernel_rfl) (z8 (z2 (zc (gd_ff b43) (z1 (zc (gd_ff b43) (z1 (zc (gd_ff b43) (z1 (zc (gd_ff b43) (z1 (zc (gd_ff b43) (z2 (zc b43 (z2 (zc (gd_ff b44) (z1 (zc (gd_ff b44) (z1 (zc (gd_ff b44) (z2 (zc b44 (z2 (zc (gd_tf b45) (zc (gd_tf b45) (zc (gd_tf b45) (zc (gd_tf b45) (zc (gd_tf b45) (z1 (zc b45 zt))))))))))))))))))))))))))))) (fun s hs => Exists.intro true (And.intro h hs))
  replace h := ite_f b45 h
  obtain ⟨r_46, e47, h⟩ := bd_inv h
  exact T_regJ (hl 23 [(10, (zd (B false))), (15, (zd (B false))), (20, (zd (B (r_46)))), (22, (zd (B false)))]) [] [1, 3, 4, 5, 8, 36, 37, 38, 64] [] [1, 3, 8] _ _ (by kernel_rfl) (z8 (z2 (zc (gd_ff b43) (z1 (zc (gd_ff b43) (z1 (zc (gd_ff b43) (z1 (zc (gd_ff b43) (z1 (zc (gd_ff b43) (z2 (zc b43 (z2 (zc (gd_ff b44) (z1 (zc (gd_ff b44) (z1 (zc (gd_ff b44) (z2 (zc b44 (z2 (zc (gd_ff b45) (z1 (zc (gd_ff b45) (z1 (zc (gd_ff b45) (z1 (zc (gd_ff b45) (zc (g_prizes_Check_1_ret e47) (zc (gd_ff b45) (z2 (zc b45 zt))))))))))))))))))))))))))))))))) (fun s hs => Exists.intro (!(r_46)) (And.intro h hs))
  replace h := ite_f b34 h
  refine T_exit ?_
  replace h := up_inv h hy1
  exact Exists.intro sum_28 (And.intro h (arr [] [1, 4, 5] [] [1, 3] (by kernel_rfl)))
  obtain ⟨r_48, e49, h⟩ := bd_inv h
  rcases Bool.eq_false_or_eq_true (!(r_48)) with b50 | b50
  replace h := ite_t b50 h
  exact T_regJ [zn, zn, zn, (zd (B (r_48))), zn, zn, zg, zg, zg, zg, zg, (zd (B true)), zn, zg, zg, zg, zg, zg, (zd (B true)), zn, zg, zg, zg, zg, (zd (B true))] [] [1, 3, 4, 34] [] [1, 3] _ _ (by kernel_rfl) (z7 (zc (g_prizes_Check_1_ret e49) (z4 (zc (gd_tf b50) (zc (gd_tf b50) (zc (gd_tf b50) (zc (gd_tf b50) (zc (gd_tf b50) (z1 (zc b50 (z2 (zc (gd_tf (rfl : true = true)) (zc (gd_tf (rfl : true = true)) (zc (gd_tf (rfl : true = true)) (zc (gd_tf (rfl : true = true)) (zc (gd_tf (rfl : true = true)) (z1 (zc (rfl : true = true) (z2 (zc (gd_tf (rfl : true = true)) (zc (gd_tf (rfl : true = true)) (zc (gd_tf (rfl : true = true)) (zc (gd_tf (rfl : true = true)) (z1 (zc (rfl : true = true) zt))))))))))))))))))))))))) (fun s hs => Exists.intro true (And.intro h hs))
  replace h := ite_f b50 h
  obtain ⟨r_51, e52, h⟩ := bd_inv h
  rcases Bool.eq_false_or_eq_true (!(r_51)) with b53 | b53
  replace h := ite_t b53 h
  exact T_regJ [zn, zn, zn, (zd (B (r_48))), zn, zn, zn, zn, zn, (zd (B (r_51))), zn, (zd (B false)), zn, zg, zg, zg, zg, zg, (zd (B true)), zn, zg, zg, zg, zg, (zd (B true))] [] [1, 3, 4, 34] [] [1, 3] _ _ (by kernel_rfl) (z7 (zc (g_prizes_Check_1_ret e49) (z4 (zc (gd_ff b50) (z1 (zc (gd_ff b50) (z1 (zc (gd_ff b50) (z1 (zc (gd_ff b50) (zc (g_prizes_Check_1_ret e52) (zc (gd_ff b50) (z2 (zc b50 (z2 (zc (gd_tf b53) (zc (gd_tf b53) (zc (gd_tf b53) (zc (gd_tf b53) (zc (gd_tf b53) (z1 (zc b53 (z2 (zc (gd_tf (rfl : true = true)) (zc (gd_tf (rfl : true = true)) (zc (gd_tf (rfl : true = true)) (zc (gd_tf (rfl : true = true)) (z1 (zc (rfl : true = true) zt))))))))))))))))))))))))))))) (fun s hs => Exists.intro true (And.intro h hs))
  replace h := ite_f b53 h
  obtain ⟨r_54, e55, h⟩ := bd_inv h
  rcases Bool.eq_false_or_eq_true (!(r_54)) with b56 | b56
  replace h := ite_t b56 h
  exact T_regJ [zn, zn, zn, (zd (B (r_48))), zn, zn, zn, zn, zn, (zd (B (r_51))), zn, (zd (B false)), zn, zn, zn, zn, (zd (B (r_54))), zn, (zd (B false)), zn, zg, zg, zg, zg, (zd (B true))] [] [1, 3, 4, 34] [] [1, 3] _ _ (by kernel_rfl) (z7 (zc (g_prizes_Check_1_ret e49) (z4 (zc (gd_ff b50) (z1 (zc (gd_ff b50) (z1 (zc (gd_ff b50) (z1 (zc (gd_ff b50) (zc (g_prizes_Check_1_ret e52) (zc (gd_ff b50) (z2 (zc b50 (z2 (zc (gd_ff b53) (z1 (zc (gd_ff b53) (z1 (zc (gd_ff b53) (z1 (zc (gd_ff b53) (zc (g_prizes_Check_1_ret e55) (zc (gd_ff b53) (z2 (zc b53 (z2 (zc (gd_tf b56) (zc (gd_tf b56) (zc (gd_tf b56) (zc (gd_tf b56) (z1 (zc b56 zt))))))))))))))))))))))))))))))))) (fun s hs => Exists.intro true (And.intro h hs))
  replace h := ite_f b56 h
  exact T_regJ (hl 25 [(3, (zd (B (r_48)))), (9, (zd (B (r_51)))), (11, (zd (B false))), (16, (zd (B (r_54)))), (18, (zd (B false))), (22, (zd (I ((s_1.p.length : Nat) : Int)))), (24, (zd (B false)))]) [] [1, 3, 4, 34] [] [1, 3] _ _ (by kernel_rfl) (z7 (zc (g_prizes_Check_1_ret e49) (z4 (zc (gd_ff b50) (z1 (zc (gd_ff b50) (z1 (zc (gd_ff b50) (z1 (zc (gd_ff b50) (zc (g_prizes_Check_1_ret e52) (zc (gd_ff b50) (z2 (zc b50 (z2 (zc (gd_ff b53) (z1 (zc (gd_ff b53) (z1 (zc (gd_ff b53) (z1 (zc (gd_ff b53) (zc (g_prizes_Check_1_ret e55) (zc (gd_ff b53) (z2 (zc b53 (z2 (zc (gd_ff b56) (z1 (zc (gd_ff b56) (z1 (zc (gd_ff b56) (zc (len_s encPrize s_1.p) (zc (gd_ff b56) (z2 (zc b56 zt)))))))))))))))))))))))))))))))))))) (fun s hs => Exists.intro (decide (((s_1.p.length : Nat) : Int) > 24)) (And.intro h hs))

theorem g_prizes_fits_ret {t_1 : Tab} {s_2 : Sch} {r : Int} (h : g_prizes_fits t_1 s_2 = some r) : Ret Try.prog 22 [(encTab t_1), (encSch s_2)] (I r) := by
  refine Ret.of_T Try.func22 (by kernel_rfl) rfl ?_
  refine T_turn [] [0, 1] [] (mk 22 [(0, (.agg (qTab t_1))), (1, (.agg (qSch s_2)))] []) (by kernel_rfl) ?_
  refine T_reg [] [2, 3] [] (mk 22 [(2, (rf 2 0)), (3, (rf 3 0))] [(3, (.var (qSch s_2))), (2, (.var (qTab t_1)))]) _ (by kernel_rfl) (z6 zt) ?_
  refine T_seq ?_
  obtain ⟨r_3, e4, h⟩ := bd_inv h
  refine T_reg [zn, (zd (I r_3))] [2, 3, 5] [] (mk 22 [(2, (rf 2 0)), (3, (rf 3 0)), (5, (di r_3))] [(3, (.var (qSch s_2))), (2, (.var (qTab t_1)))]) _ (by kernel_rfl) (z3 (zc (g_table_Check_ret e4) (z2 zt))) ?_
  refine T_reg [] [2, 3, 5, 10] [] (mk 22 [(2, (rf 2 0)), (3, (rf 3 0)), (5, (di r_3)), (10, (db (r_3 != 0)))] [(3, (.var (qSch s_2))), (2, (.var (qTab t_1)))]) _ (by kernel_rfl) (z4 zt) ?_
  refine T_cond (r_3 != 0) (by kernel_rfl) (fun b5 => ?_) (fun b5 => ?_)
  replace h := ite_t b5 h
  refine T_reg [] [4] [3, 2] (mk 22 [(4, (di r_3))] []) _ (by kernel_rfl) (z4 zt) ?_
  refine T_ret ?_
  obtain rfl := some_inv h
  exact ret_here [(di r_3)] (by kernel_rfl) (.inl rfl)
  replace h := ite_f b5 h
  refine T_skip ?_
  refine T_seq ?_
  obtain ⟨r_6, e7, h⟩ := bd_inv h
  refine T_reg [zn, (zd (I r_6))] [2, 3, 6] [] (mk 22 [(2, (rf 2 0)), (3, (rf 3 0)), (6, (di r_6))] [(3, (.var (qSch s_2))), (2, (.var (qTab t_1)))]) _ (by kernel_rfl) (z3 (zc (g_prizes_Check_ret e7) (z2 zt))) ?_
  refine T_reg [] [2, 3, 6, 15] [] (mk 22 [(2, (rf 2 0)), (3, (rf 3 0)), (6, (di r_6)), (15, (db (r_6 != 0)))] [(3, (.var (qSch s_2))), (2, (.var (qTab t_1)))]) _ (by kernel_rfl) (z4 zt) ?_
  refine T_cond (r_6 != 0) (by kernel_rfl) (fun b8 => ?_) (fun b8 => ?_)
  replace h := ite_t b8 h
  refine T_reg [] [4] [3, 2] (mk 22 [(4, (di r_6))] []) _ (by kernel_rfl) (z4 zt) ?_
  refine T_ret ?_
  obtain rfl := some_inv h
  exact ret_here [(di r_6)] (by kernel_rfl) (.inl rfl)
  replace h := ite_f b8 h
  refine T_skip ?_
  refine T_seq ?_
  refine T_reg [] [21] [3, 2] (mk 22 [(21, (db (t_1.c != s_2.c)))] []) _ (by kernel_rfl) (z8 (z2 zt)) ?_
  refine T_cond (t_1.c != s_2.c) (by kernel_rfl) (fun b9 => ?_) (fun b9 => ?_)
  replace h := ite_t b9 h
  refine T_reg [] [4] [] (mk 22 [(4, (di 420))] []) _ (by kernel_rfl) (z2 zt) ?_
  refine T_ret ?_
  obtain rfl := some_inv h
  exact ret_here [(di 420)] (by kernel_rfl) (.inl rfl)
  replace h := ite_f b9 h
  refine T_skip ?_
  refine T_reg [] [4] [] (mk 22 [(4, (di 0))] []) _ (by kernel_rfl) (z2 zt) ?_
  refine T_ret ?_
  obtain rfl := some_inv h
  exact ret_here [(di 0)] (by kernel_rfl) (.inl rfl)

theorem g_slices_Repeat_Lint_int_ret {x_1 : List Int} {count_2 : Int} {r : List Int} (h : g_slices_Repeat_Lint_int x_1 count_2 = some r) : Ret Try.prog 45 [(.sl 1 (x_1.map elI)), (I count_2)] (.sl 1 (r.map elI)) := by
  refine Ret.of_T Try.func45 (by kernel_rfl) rfl ?_
  refine T_turn [] [0, 1] [] (mk 48 [(0, (dt (.sl 1 (x_1.map elI)))), (1, (di count_2))] []) (by kernel_rfl) ?_
  refine T_reg [] [0, 1] [] (mk 48 [(0, (dt (.sl 1 (x_1.map elI)))), (1, (di count_2))] []) _ (by kernel_rfl) (z2 zt) ?_
  refine T_seq ?_
  refine T_reg [] [0, 1, 10] [] (mk 48 [(0, (dt (.sl 1 (x_1.map elI)))), (1, (di count_2)), (10, (db (decide (count_2 < 0))))] []) _ (by kernel_rfl) (z4 zt) ?_
  refine T_cond (decide (count_2 < 0)) (by kernel_rfl) (fun b3 => ?_) (fun b3 => ?_)
  replace h := ite_t b3 h
  cases h
  replace h := ite_f b3 h
  refine T_skip ?_
  obtain ⟨r_4, e5, h⟩ := bd_inv h
  refine T_reg [zn, (zd (I ((x_1.length : Nat) : Int))), zn, zn, zn, (zd (.tup [(.int .u64 r_4.1), (.int .u64 r_4.2)]))] [0, 5, 6] [] (mk 48 [(0, (dt (.sl 1 (x_1.map elI)))), (5, (dt (.int .u64 r_4.1))), (6, (dt (.int .u64 r_4.2)))] []) _ (by kernel_rfl) (z3 (zc (len_s elI x_1) (z7 (zc (g_bits_Mul_ret e5) (z8 (z2 zt)))))) ?_
  refine T_seq ?_
  refine T_seqJ (α := Bool) (fun (v_6 : Bool) => (mk 48 [(0, (dt (.sl 1 (x_1.map elI)))), (6, (dt (.int .u64 r_4.2))), (26, (db (v_6)))] [])) (fun (v_6 : Bool) => g_slices_Repeat_Lint_int_j1 r_4 x_1 v_6 = some r) (fun v_6 h => ?_) ?_
  refine T_cond (v_6) (by kernel_rfl) (fun b7 => ?_) (fun b7 => ?_)
  replace h := ite_t b7 h
  cases h
  replace h := ite_f b7 h
  refine T_skip ?_
  obtain ⟨c8, h⟩ := ckI_inv h
  refine T_seq (T_parts ?_)
  refine TL_part 2 [zn, (zd (I r_4.2))] (mk 48 [(0, (dt (.sl 1 (x_1.map elI)))), (6, (dt (.int .u64 r_4.2))), (26, (db (v_6))), (28, (dt (.int .u64 r_4.2))), (29, (di r_4.2))] []) _ (by kernel_rfl) (z3 (zc c8 zt)) rfl ?_
  obtain ⟨c9, h⟩ := ck_inv h
  refine TL_part 1 [] (mk 48 [(0, (dt (.sl 1 (x_1.map elI)))), (6, (dt (.int .u64 r_4.2))), (26, (db (v_6))), (28, (dt (.int .u64 r_4.2))), (29, (di r_4.2)), (30, (ow 30))] [(30, (.row 3 1 (List.replicate (r_4.2).toNat (I 0))))]) _ (by kernel_rfl) (z1 (zc c9 zt)) rfl ?_
  refine TL_turn [] [0, 6, 26, 28, 29, 30] [] (mk 48 [(0, (dt (.sl 1 (x_1.map elI)))), (6, (dt (.int .u64 r_4.2))), (26, (db (v_6))), (28, (dt (.int .u64 r_4.2))), (29, (di r_4.2)), (30, (ow 30))] [(30, (.row 3 1 ((List.replicate (r_4.2).toNat (0 : Int)).map elI)))]) (by rw [show (List.replicate (r_4.2).toNat (0 : Int)).map elI = (List.replicate (r_4.2).toNat (I 0)) from List.map_replicate]; kernel_rfl) ?_
  refine TL_part 1 [] (mk 48 [(0, (dt (.sl 1 (x_1.map elI)))), (6, (dt (.int .u64 r_4.2))), (7, (ow 30)), (26, (db (v_6))), (28, (dt (.int .u64 r_4.2))), (29, (di r_4.2)), (30, (ow 30))] [(30, (.row 3 1 ((List.replicate (r_4.2).toNat (0 : Int)).map elI)))]) _ (by kernel_rfl) (z2 zt) rfl ?_
  refine TL_nilQ ?_
  refine T_turn [] [0, 7] [] (mk 48 [(0, (dt (.sl 1 (x_1.map elI)))), (7, (ow 30))] [(30, (.row 3 1 ((List.replicate (r_4.2).toNat (0 : Int)).map elI)))]) (by kernel_rfl) ?_
  obtain ⟨c10, h⟩ := ck_inv h
  obtain ⟨m_11, e12, h⟩ := letO_inv h
  refine T_reg [zn, zn, (zd (.tup [(I ((m_11 : Nat) : Int)), (.sl 1 (((List.replicate (r_4.2).toNat (0 : Int)).take 0 ++ x_1.take m_11 ++ (List.replicate (r_4.2).toNat (0 : Int)).drop (0 + m_11)).map elI))]))] [7, 8] [] (mk 48 [(7, (ow 30)), (8, (di ((m_11 : Nat) : Int)))] [(30, (.row 3 1 (((List.replicate (r_4.2).toNat (0 : Int)).take 0 ++ x_1.take m_11 ++ (List.replicate (r_4.2).toNat (0 : Int)).drop (0 + m_11)).map elI)))]) _ (by kernel_rfl) (z5 (zc (cps_so elI elI_one (List.replicate (r_4.2).toNat (0 : Int)) x_1 c10 e12) (z2 zt))) ?_
  refine T_seqJ (α := List Int) (fun (l_13 : List Int) => (mk 48 [(7, (ow 30))] [(30, (.row 3 1 (l_13.map elI)))])) (fun (l_13 : List Int) => g_slices_Repeat_Lint_int_j2 l_13 = some r) (fun l_13 h => ?_) ?_
  refine T_reg [] [4] [] (mk 48 [(4, (ow 30))] [(30, (.row 3 1 (l_13.map elI)))]) _ (by kernel_rfl) (z4 zt) ?_
  refine T_ret ?_
  obtain rfl := some_inv h
  exact ret_here [(ow 30)] (by kernel_rfl) rfl
  refine T_block ?_
  refine T_arr [] [7, 8] [] [30] _ (by kernel_rfl) (T_loopO (σ := Nat × (List Int)) (fun ((n_14, l_15) : Nat × (List Int)) => (mk 48 [(7, (ow 30)), (8, (di ((n_14 : Nat) : Int)))] [(30, (.row 3 1 (l_15.map elI)))])) (g_slices_Repeat_Lint_int_l3) (m_11, ((List.replicate (r_4.2).toNat (0 : Int)).take 0 ++ x_1.take m_11 ++ (List.replicate (r_4.2).toNat (0 : Int)).drop (0 + m_11))) h (fun v y1 hy1 h => ?_))
  obtain ⟨n_14, l_15⟩ := v
  refine T_seq ?_
  refine T_reg [zn, zn, (zd (I ((l_15.length : Nat) : Int)))] [7, 8, 37] [] (mk 48 [(7, (ow 30)), (8, (di ((n_14 : Nat) : Int))), (37, (db (decide (((n_14 : Nat) : Int) < ((l_15.length : Nat) : Int)))))] [(30, (.row 3 1 (l_15.map elI)))]) _ (by kernel_rfl) (z5 (zc (len_s elI l_15) (z2 zt))) ?_
  refine T_cond (decide (((n_14 : Nat) : Int) < ((l_15.length : Nat) : Int))) (by kernel_rfl) (fun b18 => ?_) (fun b18 => ?_)
  replace h := ite_t b18 h
  refine T_skip ?_
  refine T_block ?_
  refine T_arr [] [7, 8, 37] [] [30] (mk 48 [(7, (ow 30)), (8, (di ((n_14 : Nat) : Int))), (37, (db (decide (((n_14 : Nat) : Int) < ((l_15.length : Nat) : Int)))))] [(30, (.row 3 1 (l_15.map elI)))]) (by kernel_rfl) ?_
  obtain ⟨p_19, m_20, e21, h⟩ := sbo_inv elI h
  obtain ⟨p_22, m_23, e24, h⟩ := sbo_inv elI h
  obtain ⟨c25, h⟩ := ck_inv h
  obtain ⟨c26, h⟩ := ck_inv h
  obtain ⟨m_27, e28, h⟩ := letO_inv h
  obtain ⟨c29, h⟩ := ckI_inv h
  refine T_anyU [{}, {}, {}, { h := zd (.tup [(I ((p_19 : Nat) : Int)), (I ((m_20 : Nat) : Int))]) }, {}, {}, { h := zd (.tup [(I ((p_22 : Nat) : Int)), (I ((m_23 : Nat) : Int))]) }, { h := zd (.tup [(I ((m_27 : Nat) : Int)), (.sl 1 ((l_15.take p_19 ++ ((l_15.drop p_22).take m_23).take m_27 ++ l_15.drop (p_19 + m_27)).map elI))]) }, { h := zd (I ((n_14 + m_27 : Nat) : Int)) }, {}] _ (mk 48 [(7, (ow 30)), (8, (di ((n_14 : Nat) : Int))), (37, (db (decide (((n_14 : Nat) : Int) < ((l_15.length : Nat) : Int)))))] [(30, (.row 3 1 (l_15.map elI)))]) [(0, 38, (di ((n_14 : Nat) : Int))), (1, 39, (ow 30)), (2, 40, (di ((n_14 : Nat) : Int))), (3, 41, (.one (.part 30 p_19 m_20))), (4, 42, (ow 30)), (5, 43, (di ((n_14 : Nat) : Int))), (6, 44, (.one (.part 30 p_22 m_23))), (7, 45, (di ((m_27 : Nat) : Int))), (8, 46, (di ((n_14 + m_27 : Nat) : Int))), (9, 8, (di ((n_14 + m_27 : Nat) : Int)))] [(7, 30, some (.row 3 1 ((l_15.take p_19 ++ ((l_15.drop p_22).take m_23).take m_27 ++ l_15.drop (p_19 + m_27)).map elI)))] [30] [0, 1, 2, 3, 4, 5, 6, 7, 14, 15, 16, 17, 18, 19, 20, 21, 22, 23, 30, 31, 32, 33, 34, 35, 36, 37, 38, 39, 46, 47, 48, 49, 50, 51, 52, 53, 54, 55, 62, 63, 112, 113, 114, 115, 116, 117, 118, 119, 126, 127, 254, 255, 511, 1023] (by kernel_rfl) (by decide) (by kernel_rfl) (by kernel_rfl) (by kernel_rfl) (zs (zc zt zt) (zs (zc zt zt) (zs (zc zt zt) (zs (zc zt e21) (zs (zc zt zt) (zs (zc zt zt) (zs (zc zt e24) (zs (zc zt (cpp_s elI elI_one l_15 l_15 c25 c26 e28)) (zs (zc zt c29) (zs (zc zt zt) zS)))))))))) ?_
  exact Exists.intro (n_14 + m_27, (l_15.take p_19 ++ ((l_15.drop p_22).take m_23).take m_27 ++ l_15.drop (p_19 + m_27))) (And.intro h (arr [] [7, 8] [] [30] (by kernel_rfl)))
  replace h := ite_f b18 h
  refine T_exit ?_
  replace h := up_inv h hy1
  exact Exists.intro l_15 (And.intro h (arr [] [7] [] [30] (by kernel_rfl)))
  rcases Bool.eq_false_or_eq_true (decide (r_4.1 > 0)) with b30 | b30
  replace h := ite_t b30 h
  exact T_regJ [zn, zn, zn, zg, zg, (zd (B true))] [] [0, 6, 26] [] [] _ _ (by kernel_rfl) (z6 (zc (gd_tf b30) (zc (gd_tf b30) (z1 (zc b30 zt))))) (fun s hs => Exists.intro true (And.intro h hs))
  replace h := ite_f b30 h
  exact T_regJ (hl 6 [(5, (zd (B false)))]) [] [0, 6, 26] [] [] _ _ (by kernel_rfl) (z6 (zc (gd_ff b30) (z1 (zc (gd_ff b30) (z2 (zc b30 zt)))))) (fun s hs => Exists.intro (decide (r_4.2 > 9223372036854775807)) (And.intro h hs))

theorem g_prizes_equal_ret {amount_1 : Int} {n_2 : Int} {r : List Int} (h : g_prizes_equal amount_1 n_2 = some r) : Ret Try.prog 27 [(I amount_1), (I n_2)] (.sl 1 (r.map elI)) := by
  refine Ret.of_T Try.func27 (by kernel_rfl) rfl ?_
  refine T_turn [] [0, 1] [] (mk 16 [(0, (di amount_1)), (1, (di n_2))] []) (by kernel_rfl) ?_
  refine T_reg [] [0, 1] [] (mk 16 [(0, (di amount_1)), (1, (di n_2))] []) _ (by kernel_rfl) (z2 zt) ?_
  obtain ⟨r_3, e4, h⟩ := bd_inv h
  refine T_seq (T_parts ?_)
  refine TL_part 3 [] (mk 16 [(0, (di amount_1)), (1, (di n_2)), (8, (di amount_1)), (9, (ow 9)), (10, (di n_2))] [(9, (.row 3 1 ([(1 : Int)].map elI)))]) _ (by kernel_rfl) (z3 (zc (show dfill (fun i => some (i * 1, 1)) (List.replicate (1 * 1) .junk) [(0, [(.dat (I 1))])] = some ((flat ([(1 : Int)].map elI)).map .dat) from rfl) (z2 zt))) rfl ?_
  refine TL_turn [9] [0, 1, 8, 9, 10] [] (mk 16 [(0, (di amount_1)), (1, (di n_2)), (8, (di amount_1)), (9, (dt (.sl 1 ([(1 : Int)].map elI)))), (10, (di n_2))] []) (by kernel_rfl) ?_
  obtain ⟨r_5, e6, h⟩ := bd_inv h
  refine TL_part 7 [(zd (.sl 1 (r_3.map elI))), (zd (.tup [(.sl 1 (r_5.1.map elI)), (I r_5.2)]))] (mk 16 [(0, (di amount_1)), (1, (di n_2)), (5, (dt (.sl 1 (r_5.1.map elI)))), (6, (di r_5.2)), (7, (.tup [(false, [(.dat (.sl 1 (r_5.1.map elI)))]), (false, [(.dat (I r_5.2))])])), (8, (di amount_1)), (9, (dt (.sl 1 ([(1 : Int)].map elI)))), (10, (di n_2)), (11, (dt (.sl 1 (r_3.map elI)))), (12, (.tup [(false, [(.dat (.sl 1 (r_5.1.map elI)))]), (false, [(.dat (I r_5.2))])])), (13, (dt (.sl 1 (r_5.1.map elI)))), (14, (di r_5.2))] []) _ (by kernel_rfl) (z1 (zc (g_slices_Repeat_Lint_int_ret e4) (z1 (zc (g_money_Split_ret e6) (z8 (z2 zt)))))) rfl ?_
  refine TL_nilQ ?_
  refine T_turn [] [5] [] (mk 16 [(5, (dt (.sl 1 (r_5.1.map elI))))] []) (by kernel_rfl) ?_
  refine T_reg [] [4] [] (mk 16 [(4, (dt (.sl 1 (r_5.1.map elI))))] []) _ (by kernel_rfl) (z4 zt) ?_
  refine T_ret ?_
  obtain rfl := some_inv h
  exact ret_here [(dt (.sl 1 (r_5.1.map elI)))] (by kernel_rfl) (.inl rfl)

end Go.Proofs.Ytoiiblkncbnlaaa

/-
  Go functions as partial functions, printed by auto.py: what each returns when its partial function has a value. Conditions: those of each theorem.
-/
namespace Go.Proofs.Ytoiiblkncbnlaaa
open Go.DL
set_option maxRecDepth 100000
set_option maxHeartbeats 4000000
set_option linter.unusedVariables false
set_option linter.unusedSimpArgs false
theorem g_prizes_of_ret {tables_1 : List Tab} {schemes_2 : List Sch} {comp_3 : Int} {r : League × Bool} (h : g_prizes_of tables_1 schemes_2 comp_3 = some r) : Ret Try.prog 14 [(.sl 3 (tables_1.map encTab)), (.sl 6 (schemes_2.map encSch)), (I comp_3)] (.tup [(encLeague r.1), (B (r.2))]) := by
  refine Ret.of_T Try.func14 (by kernel_rfl) rfl ?_
  refine T_turn [] [0, 1, 2] [] (mk 32 [(0, (dt (.sl 3 (tables_1.map encTab)))), (1, (dt (.sl 6 (schemes_2.map encSch)))), (2, (di comp_3))] []) (by kernel_rfl) ?_
  refine T_reg [] [0, 1, 5, 6] [] (mk 32 [(0, (dt (.sl 3 (tables_1.map encTab)))), (1, (dt (.sl 6 (schemes_2.map encSch)))), (5, (rf 5 0)), (6, (rf 6 0))] [(6, (.var [(.dat (I 0)), (.dat (I 0)), (.dat nilS), (.dat (I 0)), (.dat nilS), (.dat (I 0)), (.dat (I 0)), (.dat (I 0)), (.dat (I 0))])), (5, (.var [(.dat (I comp_3))]))]) _ (by kernel_rfl) (z6 zt) ?_
  refine T_seq (T_parts ?_)
  refine TL_part 2 [] (mk 32 [(0, (dt (.sl 3 (tables_1.map encTab)))), (1, (dt (.sl 6 (schemes_2.map encSch)))), (5, (rf 5 0)), (6, (rf 6 0)), (10, (dt (.sl 3 (tables_1.map encTab)))), (11, (.one (.fn 36 [.inl 5])))] [(6, (.var [(.dat (I 0)), (.dat (I 0)), (.dat nilS), (.dat (I 0)), (.dat nilS), (.dat (I 0)), (.dat (I 0)), (.dat (I 0)), (.dat (I 0))])), (5, (.var [(.dat (I comp_3))]))]) _ (by kernel_rfl) (z4 zt) rfl ?_
  refine TL_consJ (α := Int) (fun (v_4 : Int) => (mk 32 [(0, (dt (.sl 3 (tables_1.map encTab)))), (1, (dt (.sl 6 (schemes_2.map encSch)))), (5, (rf 5 0)), (6, (rf 6 0)), (12, (di v_4))] [(5, (.var [(.dat (I comp_3))])), (6, (.var [(.dat (I 0)), (.dat (I 0)), (.dat nilS), (.dat (I 0)), (.dat nilS), (.dat (I 0)), (.dat (I 0)), (.dat (I 0)), (.dat (I 0))]))])) (fun (v_4 : Int) => g_prizes_of_j1 schemes_2 comp_3 tables_1 v_4 = some r) (fun v_4 h => ?_) ?_
  refine TL_turn [] [0, 1, 5, 6, 12] [] (mk 32 [(0, (dt (.sl 3 (tables_1.map encTab)))), (1, (dt (.sl 6 (schemes_2.map encSch)))), (5, (rf 5 0)), (6, (rf 6 0)), (12, (di v_4))] [(5, (.var [(.dat (I comp_3))])), (6, (.var [(.dat (I 0)), (.dat (I 0)), (.dat nilS), (.dat (I 0)), (.dat nilS), (.dat (I 0)), (.dat (I 0)), (.dat (I 0)), (.dat (I 0))]))]) (by kernel_rfl) ?_
  refine TL_part 1 [] (mk 32 [(0, (dt (.sl 3 (tables_1.map encTab)))), (1, (dt (.sl 6 (schemes_2.map encSch)))), (5, (rf 5 0)), (6, (rf 6 0)), (8, (di v_4)), (12, (di v_4))] [(5, (.var [(.dat (I comp_3))])), (6, (.var [(.dat (I 0)), (.dat (I 0)), (.dat nilS), (.dat (I 0)), (.dat nilS), (.dat (I 0)), (.dat (I 0)), (.dat (I 0)), (.dat (I 0))]))]) _ (by kernel_rfl) (z2 zt) rfl ?_
  refine TL_nilQ ?_
  refine T_turn [] [0, 1, 5, 6, 8] [] (mk 32 [(0, (dt (.sl 3 (tables_1.map encTab)))), (1, (dt (.sl 6 (schemes_2.map encSch)))), (5, (rf 5 0)), (6, (rf 6 0)), (8, (di v_4))] [(5, (.var [(.dat (I comp_3))])), (6, (.var [(.dat (I 0)), (.dat (I 0)), (.dat nilS), (.dat (I 0)), (.dat nilS), (.dat (I 0)), (.dat (I 0)), (.dat (I 0)), (.dat (I 0))]))]) (by kernel_rfl) ?_
  refine T_seq (T_parts ?_)
  refine TL_part 2 [] (mk 32 [(0, (dt (.sl 3 (tables_1.map encTab)))), (1, (dt (.sl 6 (schemes_2.map encSch)))), (5, (rf 5 0)), (6, (rf 6 0)), (8, (di v_4)), (13, (dt (.sl 6 (schemes_2.map encSch)))), (14, (.one (.fn 38 [.inl 5])))] [(5, (.var [(.dat (I comp_3))])), (6, (.var [(.dat (I 0)), (.dat (I 0)), (.dat nilS), (.dat (I 0)), (.dat nilS), (.dat (I 0)), (.dat (I 0)), (.dat (I 0)), (.dat (I 0))]))]) _ (by kernel_rfl) (z4 zt) rfl ?_
  refine TL_consJ (α := Int) (fun (v_5 : Int) => (mk 32 [(0, (dt (.sl 3 (tables_1.map encTab)))), (1, (dt (.sl 6 (schemes_2.map encSch)))), (6, (rf 6 0)), (8, (di v_4)), (15, (di v_5))] [(6, (.var [(.dat (I 0)), (.dat (I 0)), (.dat nilS), (.dat (I 0)), (.dat nilS), (.dat (I 0)), (.dat (I 0)), (.dat (I 0)), (.dat (I 0))]))])) (fun (v_5 : Int) => g_prizes_of_j2 v_4 tables_1 schemes_2 v_5 = some r) (fun v_5 h => ?_) ?_
  refine TL_turn [] [0, 1, 6, 8, 15] [] (mk 32 [(0, (dt (.sl 3 (tables_1.map encTab)))), (1, (dt (.sl 6 (schemes_2.map encSch)))), (6, (rf 6 0)), (8, (di v_4)), (15, (di v_5))] [(6, (.var [(.dat (I 0)), (.dat (I 0)), (.dat nilS), (.dat (I 0)), (.dat nilS), (.dat (I 0)), (.dat (I 0)), (.dat (I 0)), (.dat (I 0))]))]) (by kernel_rfl) ?_
  refine TL_part 1 [] (mk 32 [(0, (dt (.sl 3 (tables_1.map encTab)))), (1, (dt (.sl 6 (schemes_2.map encSch)))), (6, (rf 6 0)), (8, (di v_4)), (9, (di v_5)), (15, (di v_5))] [(6, (.var [(.dat (I 0)), (.dat (I 0)), (.dat nilS), (.dat (I 0)), (.dat nilS), (.dat (I 0)), (.dat (I 0)), (.dat (I 0)), (.dat (I 0))]))]) _ (by kernel_rfl) (z2 zt) rfl ?_
  refine TL_nilQ ?_
  refine T_turn [] [0, 1, 6, 8, 9] [] (mk 32 [(0, (dt (.sl 3 (tables_1.map encTab)))), (1, (dt (.sl 6 (schemes_2.map encSch)))), (6, (rf 6 0)), (8, (di v_4)), (9, (di v_5))] [(6, (.var [(.dat (I 0)), (.dat (I 0)), (.dat nilS), (.dat (I 0)), (.dat nilS), (.dat (I 0)), (.dat (I 0)), (.dat (I 0)), (.dat (I 0))]))]) (by kernel_rfl) ?_
  refine T_seq ?_
  refine T_seqJ (α := Bool) (fun (v_6 : Bool) => (mk 32 [(0, (dt (.sl 3 (tables_1.map encTab)))), (1, (dt (.sl 6 (schemes_2.map encSch)))), (6, (rf 6 0)), (8, (di v_4)), (9, (di v_5)), (21, (db (v_6)))] [(6, (.var [(.dat (I 0)), (.dat (I 0)), (.dat nilS), (.dat (I 0)), (.dat nilS), (.dat (I 0)), (.dat (I 0)), (.dat (I 0)), (.dat (I 0))]))])) (fun (v_6 : Bool) => g_prizes_of_j3 tables_1 v_4 schemes_2 v_5 v_6 = some r) (fun v_6 h => ?_) ?_
  refine T_cond (v_6) (by kernel_rfl) (fun b7 => ?_) (fun b7 => ?_)
  replace h := ite_t b7 h
  refine T_reg [] [6, 7] [] (mk 32 [(6, (rf 6 0)), (7, (db false))] [(6, (.var [(.dat (I 0)), (.dat (I 0)), (.dat nilS), (.dat (I 0)), (.dat nilS), (.dat (I 0)), (.dat (I 0)), (.dat (I 0)), (.dat (I 0))]))]) _ (by kernel_rfl) (z6 zt) ?_
  refine T_ret ?_
  obtain rfl := some_inv h
  exact ret_here [(.agg [(.dat (I 0)), (.dat (I 0)), (.dat nilS), (.dat (I 0)), (.dat nilS), (.dat (I 0)), (.dat (I 0)), (.dat (I 0)), (.dat (I 0))]), (db false)] (by kernel_rfl) ⟨⟨(.inl rfl), (.inl rfl), (.inr ⟨rfl, 14, rfl⟩), (.inl rfl), (.inr ⟨rfl, 3, rfl⟩), (.inl rfl), (.inl rfl), (.inl rfl), (.inl rfl), trivial⟩, (.inl rfl), trivial⟩
  replace h := ite_f b7 h
  refine T_skip ?_
  obtain ⟨x_8, e9, e10, e11, h⟩ := gt_inv encTab h
  obtain ⟨x_12, e13, e14, e15, h⟩ := gt_inv encSch h
  refine T_regD 9 (hl 7 [(2, (zd (encTab x_8))), (6, (zd (encSch x_12)))]) [6, 7] [] (mk 32 [(6, (rf 6 0)), (7, (db true))] [(6, (.var [(.dat (I x_8.s)), (.dat (I x_8.c)), (.dat (.sl 14 (x_8.l.map encPlace))), (.dat (I x_12.c)), (.dat (.sl 3 (x_12.p.map encPrize))), (.dat (I x_12.u)), (.dat (I x_12.d)), (.dat (I x_12.ab)), (.dat (I x_12.be))]))]) _ (by kernel_rfl) (by kernel_rfl) (by kernel_rfl) (zc (z5 (zc e9 (z7 (zc e13 (z4 zt))))) (z4 zt)) ?_
  refine T_ret ?_
  obtain rfl := some_inv h
  exact ret_here [(.agg [(.dat (I x_8.s)), (.dat (I x_8.c)), (.dat (.sl 14 (x_8.l.map encPlace))), (.dat (I x_12.c)), (.dat (.sl 3 (x_12.p.map encPrize))), (.dat (I x_12.u)), (.dat (I x_12.d)), (.dat (I x_12.ab)), (.dat (I x_12.be))]), (db true)] (by kernel_rfl) ⟨⟨(.inl rfl), (.inl rfl), (.inl rfl), (.inl rfl), (.inl rfl), (.inl rfl), (.inl rfl), (.inl rfl), (.inl rfl), trivial⟩, (.inl rfl), trivial⟩
  rcases Bool.eq_false_or_eq_true (decide (v_4 < 0)) with b16 | b16
  replace h := ite_t b16 h
  exact T_regJ [zn, zn, zn, zg, zg, (zd (B true))] [] [0, 1, 6, 8, 9, 21] [] [6] _ _ (by kernel_rfl) (z6 (zc (gd_tf b16) (zc (gd_tf b16) (z1 (zc b16 zt))))) (fun s hs => Exists.intro true (And.intro h hs))
  replace h := ite_f b16 h
  exact T_regJ (hl 6 [(5, (zd (B false)))]) [] [0, 1, 6, 8, 9, 21] [] [6] _ _ (by kernel_rfl) (z6 (zc (gd_ff b16) (z1 (zc (gd_ff b16) (z2 (zc b16 zt)))))) (fun s hs => Exists.intro (decide (v_5 < 0)) (And.intro h hs))
  refine TL_inline 32 37 [] Try.f37 _ rfl rfl (by kernel_rfl) Try.func37 rfl rfl (by decide) ?_
  refine T_turn [] [0, 1] [] (mk 19 [(0, (dt (.sl 6 (schemes_2.map encSch)))), (1, (.one (.fn 38 [.inl 5])))] [(5, (.var [(.dat (I comp_3))])), (6, (.var [(.dat (I 0)), (.dat (I 0)), (.dat nilS), (.dat (I 0)), (.dat nilS), (.dat (I 0)), (.dat (I 0)), (.dat (I 0)), (.dat (I 0))]))]) (by kernel_rfl) ?_
  refine T_reg [] [0, 1] [] (mk 19 [(0, (dt (.sl 6 (schemes_2.map encSch)))), (1, (.one (.fn 38 [.inl 5])))] [(5, (.var [(.dat (I comp_3))])), (6, (.var [(.dat (I 0)), (.dat (I 0)), (.dat nilS), (.dat (I 0)), (.dat nilS), (.dat (I 0)), (.dat (I 0)), (.dat (I 0)), (.dat (I 0))]))]) _ (by kernel_rfl) (z2 zt) ?_
  refine T_seqJ (α := Unit) (fun (_ : Unit) => (mk 19 [] [(6, (.var [(.dat (I 0)), (.dat (I 0)), (.dat nilS), (.dat (I 0)), (.dat nilS), (.dat (I 0)), (.dat (I 0)), (.dat (I 0)), (.dat (I 0))]))])) (fun (_ : Unit) => g_prizes_of_j4 v_4 tables_1 schemes_2 = some r) (fun v h => ?_) ?_
  refine T_reg [] [4] [] (mk 19 [(4, (di (-1)))] [(6, (.var [(.dat (I 0)), (.dat (I 0)), (.dat nilS), (.dat (I 0)), (.dat nilS), (.dat (I 0)), (.dat (I 0)), (.dat (I 0)), (.dat (I 0))]))]) _ (by kernel_rfl) (z2 zt) ?_
  refine T_ret ?_
  refine ⟨[(di (-1))], by kernel_rfl, ?_⟩
  refine TL_nilQ ?_
  exact Exists.intro (-1) (And.intro h (arr [] [0, 1, 6, 8, 15] [] [6] (by kernel_rfl)))
  refine T_reg [zn, (zd (I ((schemes_2.length : Nat) : Int)))] [0, 1, 7, 8] [] (mk 19 [(0, (dt (.sl 6 (schemes_2.map encSch)))), (1, (.one (.fn 38 [.inl 5]))), (7, (di ((schemes_2.length : Nat) : Int))), (8, (di 0))] [(5, (.var [(.dat (I comp_3))])), (6, (.var [(.dat (I 0)), (.dat (I 0)), (.dat nilS), (.dat (I 0)), (.dat nilS), (.dat (I 0)), (.dat (I 0)), (.dat (I 0)), (.dat (I 0))]))]) _ (by kernel_rfl) (z3 (zc (len_s encSch schemes_2) (z2 zt))) ?_
  refine T_block ?_
  refine T_arr [] [0, 1, 7, 8] [] [5, 6] _ (by kernel_rfl) (T_loopO (σ := Nat) (fun (v_17 : Nat) => (mk 19 [(0, (dt (.sl 6 (schemes_2.map encSch)))), (1, (.one (.fn 38 [.inl 5]))), (7, (di ((schemes_2.length : Nat) : Int))), (8, (di ((v_17 : Nat) : Int)))] [(5, (.var [(.dat (I comp_3))])), (6, (.var [(.dat (I 0)), (.dat (I 0)), (.dat nilS), (.dat (I 0)), (.dat nilS), (.dat (I 0)), (.dat (I 0)), (.dat (I 0)), (.dat (I 0))]))])) (g_prizes_of_l5 schemes_2 comp_3 v_4 tables_1) 0 h (fun v_17 y1 hy1 h => ?_))
  refine T_reg [] [0, 1, 7, 8, 9] [] (mk 19 [(0, (dt (.sl 6 (schemes_2.map encSch)))), (1, (.one (.fn 38 [.inl 5]))), (7, (di ((schemes_2.length : Nat) : Int))), (8, (di ((v_17 : Nat) : Int))), (9, (db (decide (((v_17 : Nat) : Int) < ((schemes_2.length : Nat) : Int)))))] [(5, (.var [(.dat (I comp_3))])), (6, (.var [(.dat (I 0)), (.dat (I 0)), (.dat nilS), (.dat (I 0)), (.dat nilS), (.dat (I 0)), (.dat (I 0)), (.dat (I 0)), (.dat (I 0))]))]) _ (by kernel_rfl) (z2 zt) ?_
  refine T_seq ?_
  refine T_cond (decide (((v_17 : Nat) : Int) < ((schemes_2.length : Nat) : Int))) (by kernel_rfl) (fun b19 => ?_) (fun b19 => ?_)
  replace h := ite_t b19 h
  refine T_skip ?_
  refine T_seq ?_
  refine T_block ?_
  refine T_reg [] [0, 1, 5, 7, 8] [] (mk 19 [(0, (dt (.sl 6 (schemes_2.map encSch)))), (1, (.one (.fn 38 [.inl 5]))), (5, (di ((v_17 : Nat) : Int))), (7, (di ((schemes_2.length : Nat) : Int))), (8, (di ((v_17 : Nat) : Int)))] [(5, (.var [(.dat (I comp_3))])), (6, (.var [(.dat (I 0)), (.dat (I 0)), (.dat nilS), (.dat (I 0)), (.dat nilS), (.dat (I 0)), (.dat (I 0)), (.dat (I 0)), (.dat (I 0))]))]) _ (by kernel_rfl) (z4 zt) ?_
  obtain ⟨x_20, e21, e22, e23, h⟩ := gn_inv encSch h
  refine T_seq (T_parts ?_)
  refine TL_part 5 [zn, zn, zn, (zd (encSch x_20))] (mk 19 [(0, (dt (.sl 6 (schemes_2.map encSch)))), (1, (.one (.fn 38 [.inl 5]))), (5, (di ((v_17 : Nat) : Int))), (7, (di ((schemes_2.length : Nat) : Int))), (8, (di ((v_17 : Nat) : Int))), (11, (.one (.fn 38 [.inl 5]))), (12, (dt (.sl 6 (schemes_2.map encSch)))), (13, (di ((v_17 : Nat) : Int))), (14, (dt (.ptr [(I x_20.c), (.sl 3 (x_20.p.map encPrize)), (I x_20.u), (I x_20.d), (I x_20.ab), (I x_20.be)]))), (15, (.agg (qSch x_20)))] [(5, (.var [(.dat (I comp_3))])), (6, (.var [(.dat (I 0)), (.dat (I 0)), (.dat nilS), (.dat (I 0)), (.dat nilS), (.dat (I 0)), (.dat (I 0)), (.dat (I 0)), (.dat (I 0))]))]) _ (by kernel_rfl) (z7 (zc e21 (z2 zt))) rfl ?_
  refine TL_inline 51 38 [.inl 5] Try.f38 _ rfl rfl (by kernel_rfl) Try.func38 rfl rfl (by decide) ?_
  refine T_turn [] [0, 1] [] (mk 8 [(0, (.agg (qSch x_20))), (1, (rf 5 0))] [(5, (.var [(.dat (I comp_3))])), (6, (.var [(.dat (I 0)), (.dat (I 0)), (.dat nilS), (.dat (I 0)), (.dat nilS), (.dat (I 0)), (.dat (I 0)), (.dat (I 0)), (.dat (I 0))]))]) (by kernel_rfl) ?_
  refine T_reg [] [1, 2] [] (mk 8 [(1, (rf 5 0)), (2, (rf 53 0))] [(53, (.var (qSch x_20))), (5, (.var [(.dat (I comp_3))])), (6, (.var [(.dat (I 0)), (.dat (I 0)), (.dat nilS), (.dat (I 0)), (.dat nilS), (.dat (I 0)), (.dat (I 0)), (.dat (I 0)), (.dat (I 0))]))]) _ (by kernel_rfl) (z4 zt) ?_
  refine T_reg [] [3] [53] (mk 8 [(3, (db (x_20.c == comp_3)))] [(5, (.var [(.dat (I comp_3))])), (6, (.var [(.dat (I 0)), (.dat (I 0)), (.dat nilS), (.dat (I 0)), (.dat nilS), (.dat (I 0)), (.dat (I 0)), (.dat (I 0)), (.dat (I 0))]))]) _ (by kernel_rfl) (z8 (z2 zt)) ?_
  refine T_ret ?_
  refine ⟨[(db (x_20.c == comp_3))], by kernel_rfl, ?_⟩
  refine TL_turn [] [0, 1, 5, 7, 8, 16] [] (mk 19 [(0, (dt (.sl 6 (schemes_2.map encSch)))), (1, (.one (.fn 38 [.inl 5]))), (5, (di ((v_17 : Nat) : Int))), (7, (di ((schemes_2.length : Nat) : Int))), (8, (di ((v_17 : Nat) : Int))), (16, (db (x_20.c == comp_3)))] [(5, (.var [(.dat (I comp_3))])), (6, (.var [(.dat (I 0)), (.dat (I 0)), (.dat nilS), (.dat (I 0)), (.dat nilS), (.dat (I 0)), (.dat (I 0)), (.dat (I 0)), (.dat (I 0))]))]) (by kernel_rfl) ?_
  refine TL_nilQ ?_
  refine T_turn [] [0, 1, 5, 7, 8, 16] [] (mk 19 [(0, (dt (.sl 6 (schemes_2.map encSch)))), (1, (.one (.fn 38 [.inl 5]))), (5, (di ((v_17 : Nat) : Int))), (7, (di ((schemes_2.length : Nat) : Int))), (8, (di ((v_17 : Nat) : Int))), (16, (db (x_20.c == comp_3)))] [(5, (.var [(.dat (I comp_3))])), (6, (.var [(.dat (I 0)), (.dat (I 0)), (.dat nilS), (.dat (I 0)), (.dat nilS), (.dat (I 0)), (.dat (I 0)), (.dat (I 0)), (.dat (I 0))]))]) (by kernel_rfl) ?_
  refine T_cond (x_20.c == comp_3) (by kernel_rfl) (fun b24 => ?_) (fun b24 => ?_)
  replace h := ite_t b24 h
  refine T_reg [] [4] [5] (mk 19 [(4, (di ((v_17 : Nat) : Int)))] [(6, (.var [(.dat (I 0)), (.dat (I 0)), (.dat nilS), (.dat (I 0)), (.dat nilS), (.dat (I 0)), (.dat (I 0)), (.dat (I 0)), (.dat (I 0))]))]) _ (by kernel_rfl) (z4 zt) ?_
  refine T_ret ?_
  replace h := up_inv h hy1
  refine ⟨[(di ((v_17 : Nat) : Int))], by kernel_rfl, ?_⟩
  refine TL_nilQ ?_
  exact Exists.intro ((v_17 : Nat) : Int) (And.intro h (arr [] [0, 1, 6, 8, 15] [] [6] (by kernel_rfl)))
  replace h := ite_f b24 h
  refine T_skip ?_
  obtain ⟨c25, h⟩ := ckI_inv h
  exact T_regJ [(zd (I ((v_17 + 1 : Nat) : Int)))] [] [0, 1, 7, 8] [] [5, 6] _ _ (by kernel_rfl) (z1 (zc c25 (z2 zt))) (fun s hs => Exists.intro (v_17 + 1) (And.intro h hs))
  replace h := ite_f b19 h
  refine T_exit ?_
  replace h := up_inv h hy1
  exact Exists.intro () (And.intro h (arr [] [] [5] [6] (by kernel_rfl)))
  refine TL_inline 32 35 [] Try.f35 _ rfl rfl (by kernel_rfl) Try.func35 rfl rfl (by decide) ?_
  refine T_turn [] [0, 1] [] (mk 19 [(0, (dt (.sl 3 (tables_1.map encTab)))), (1, (.one (.fn 36 [.inl 5])))] [(6, (.var [(.dat (I 0)), (.dat (I 0)), (.dat nilS), (.dat (I 0)), (.dat nilS), (.dat (I 0)), (.dat (I 0)), (.dat (I 0)), (.dat (I 0))])), (5, (.var [(.dat (I comp_3))]))]) (by kernel_rfl) ?_
  refine T_reg [] [0, 1] [] (mk 19 [(0, (dt (.sl 3 (tables_1.map encTab)))), (1, (.one (.fn 36 [.inl 5])))] [(6, (.var [(.dat (I 0)), (.dat (I 0)), (.dat nilS), (.dat (I 0)), (.dat nilS), (.dat (I 0)), (.dat (I 0)), (.dat (I 0)), (.dat (I 0))])), (5, (.var [(.dat (I comp_3))]))]) _ (by kernel_rfl) (z2 zt) ?_
  refine T_seqJ (α := Unit) (fun (_ : Unit) => (mk 19 [] [(5, (.var [(.dat (I comp_3))])), (6, (.var [(.dat (I 0)), (.dat (I 0)), (.dat nilS), (.dat (I 0)), (.dat nilS), (.dat (I 0)), (.dat (I 0)), (.dat (I 0)), (.dat (I 0))]))])) (fun (_ : Unit) => g_prizes_of_j6 schemes_2 comp_3 tables_1 = some r) (fun v h => ?_) ?_
  refine T_reg [] [4] [] (mk 19 [(4, (di (-1)))] [(5, (.var [(.dat (I comp_3))])), (6, (.var [(.dat (I 0)), (.dat (I 0)), (.dat nilS), (.dat (I 0)), (.dat nilS), (.dat (I 0)), (.dat (I 0)), (.dat (I 0)), (.dat (I 0))]))]) _ (by kernel_rfl) (z2 zt) ?_
  refine T_ret ?_
  refine ⟨[(di (-1))], by kernel_rfl, ?_⟩
  refine TL_nilQ ?_
  exact Exists.intro (-1) (And.intro h (arr [] [0, 1, 5, 6, 12] [] [5, 6] (by kernel_rfl)))
  refine T_reg [zn, (zd (I ((tables_1.length : Nat) : Int)))] [0, 1, 7, 8] [] (mk 19 [(0, (dt (.sl 3 (tables_1.map encTab)))), (1, (.one (.fn 36 [.inl 5]))), (7, (di ((tables_1.length : Nat) : Int))), (8, (di 0))] [(6, (.var [(.dat (I 0)), (.dat (I 0)), (.dat nilS), (.dat (I 0)), (.dat nilS), (.dat (I 0)), (.dat (I 0)), (.dat (I 0)), (.dat (I 0))])), (5, (.var [(.dat (I comp_3))]))]) _ (by kernel_rfl) (z3 (zc (len_s encTab tables_1) (z2 zt))) ?_
  refine T_block ?_
  refine T_arr [] [0, 1, 7, 8] [] [5, 6] _ (by kernel_rfl) (T_loopO (σ := Nat) (fun (v_26 : Nat) => (mk 19 [(0, (dt (.sl 3 (tables_1.map encTab)))), (1, (.one (.fn 36 [.inl 5]))), (7, (di ((tables_1.length : Nat) : Int))), (8, (di ((v_26 : Nat) : Int)))] [(5, (.var [(.dat (I comp_3))])), (6, (.var [(.dat (I 0)), (.dat (I 0)), (.dat nilS), (.dat (I 0)), (.dat nilS), (.dat (I 0)), (.dat (I 0)), (.dat (I 0)), (.dat (I 0))]))])) (g_prizes_of_l7 tables_1 comp_3 schemes_2) 0 h (fun v_26 y1 hy1 h => ?_))
  refine T_reg [] [0, 1, 7, 8, 9] [] (mk 19 [(0, (dt (.sl 3 (tables_1.map encTab)))), (1, (.one (.fn 36 [.inl 5]))), (7, (di ((tables_1.length : Nat) : Int))), (8, (di ((v_26 : Nat) : Int))), (9, (db (decide (((v_26 : Nat) : Int) < ((tables_1.length : Nat) : Int)))))] [(5, (.var [(.dat (I comp_3))])), (6, (.var [(.dat (I 0)), (.dat (I 0)), (.dat nilS), (.dat (I 0)), (.dat nilS), (.dat (I 0)), (.dat (I 0)), (.dat (I 0)), (.dat (I 0))]))]) _ (by kernel_rfl) (z2 zt) ?_
  refine T_seq ?_
  refine T_cond (decide (((v_26 : Nat) : Int) < ((tables_1.length : Nat) : Int))) (by kernel_rfl) (fun b28 => ?_) (fun b28 => ?_)
  replace h := ite_t b28 h
  refine T_skip ?_
  refine T_seq ?_
  refine T_block ?_
  refine T_reg [] [0, 1, 5, 7, 8] [] (mk 19 [(0, (dt (.sl 3 (tables_1.map encTab)))), (1, (.one (.fn 36 [.inl 5]))), (5, (di ((v_26 : Nat) : Int))), (7, (di ((tables_1.length : Nat) : Int))), (8, (di ((v_26 : Nat) : Int)))] [(5, (.var [(.dat (I comp_3))])), (6, (.var [(.dat (I 0)), (.dat (I 0)), (.dat nilS), (.dat (I 0)), (.dat nilS), (.dat (I 0)), (.dat (I 0)), (.dat (I 0)), (.dat (I 0))]))]) _ (by kernel_rfl) (z4 zt) ?_
  obtain ⟨x_29, e30, e31, e32, h⟩ := gn_inv encTab h
  refine T_seq (T_parts ?_)
  refine TL_part 5 [zn, zn, zn, (zd (encTab x_29))] (mk 19 [(0, (dt (.sl 3 (tables_1.map encTab)))), (1, (.one (.fn 36 [.inl 5]))), (5, (di ((v_26 : Nat) : Int))), (7, (di ((tables_1.length : Nat) : Int))), (8, (di ((v_26 : Nat) : Int))), (11, (.one (.fn 36 [.inl 5]))), (12, (dt (.sl 3 (tables_1.map encTab)))), (13, (di ((v_26 : Nat) : Int))), (14, (dt (.ptr [(I x_29.s), (I x_29.c), (.sl 14 (x_29.l.map encPlace))]))), (15, (.agg (qTab x_29)))] [(5, (.var [(.dat (I comp_3))])), (6, (.var [(.dat (I 0)), (.dat (I 0)), (.dat nilS), (.dat (I 0)), (.dat nilS), (.dat (I 0)), (.dat (I 0)), (.dat (I 0)), (.dat (I 0))]))]) _ (by kernel_rfl) (z7 (zc e30 (z2 zt))) rfl ?_
  refine TL_inline 51 36 [.inl 5] Try.f36 _ rfl rfl (by kernel_rfl) Try.func36 rfl rfl (by decide) ?_
  refine T_turn [] [0, 1] [] (mk 8 [(0, (.agg (qTab x_29))), (1, (rf 5 0))] [(5, (.var [(.dat (I comp_3))])), (6, (.var [(.dat (I 0)), (.dat (I 0)), (.dat nilS), (.dat (I 0)), (.dat nilS), (.dat (I 0)), (.dat (I 0)), (.dat (I 0)), (.dat (I 0))]))]) (by kernel_rfl) ?_
  refine T_reg [] [1, 2] [] (mk 8 [(1, (rf 5 0)), (2, (rf 53 0))] [(53, (.var (qTab x_29))), (5, (.var [(.dat (I comp_3))])), (6, (.var [(.dat (I 0)), (.dat (I 0)), (.dat nilS), (.dat (I 0)), (.dat nilS), (.dat (I 0)), (.dat (I 0)), (.dat (I 0)), (.dat (I 0))]))]) _ (by kernel_rfl) (z4 zt) ?_
  refine T_reg [] [3] [53] (mk 8 [(3, (db (x_29.c == comp_3)))] [(5, (.var [(.dat (I comp_3))])), (6, (.var [(.dat (I 0)), (.dat (I 0)), (.dat nilS), (.dat (I 0)), (.dat nilS), (.dat (I 0)), (.dat (I 0)), (.dat (I 0)), (.dat (I 0))]))]) _ (by kernel_rfl) (z8 (z2 zt)) ?_
  refine T_ret ?_
  refine ⟨[(db (x_29.c == comp_3))], by kernel_rfl, ?_⟩
  refine TL_turn [] [0, 1, 5, 7, 8, 16] [] (mk 19 [(0, (dt (.sl 3 (tables_1.map encTab)))), (1, (.one (.fn 36 [.inl 5]))), (5, (di ((v_26 : Nat) : Int))), (7, (di ((tables_1.length : Nat) : Int))), (8, (di ((v_26 : Nat) : Int))), (16, (db (x_29.c == comp_3)))] [(5, (.var [(.dat (I comp_3))])), (6, (.var [(.dat (I 0)), (.dat (I 0)), (.dat nilS), (.dat (I 0)), (.dat nilS), (.dat (I 0)), (.dat (I 0)), (.dat (I 0)), (.dat (I 0))]))]) (by kernel_rfl) ?_
  refine TL_nilQ ?_
  refine T_turn [] [0, 1, 5, 7, 8, 16] [] (mk 19 [(0, (dt (.sl 3 (tables_1.map encTab)))), (1, (.one (.fn 36 [.inl 5]))), (5, (di ((v_26 : Nat) : Int))), (7, (di ((tables_1.length : Nat) : Int))), (8, (di ((v_26 : Nat) : Int))), (16, (db (x_29.c == comp_3)))] [(5, (.var [(.dat (I comp_3))])), (6, (.var [(.dat (I 0)), (.dat (I 0)), (.dat nilS), (.dat (I 0)), (.dat nilS), (.dat (I 0)), (.dat (I 0)), (.dat (I 0)), (.dat (I 0))]))]) (by kernel_rfl) ?_
  refine T_cond (x_29.c == comp_3) (by kernel_rfl) (fun b33 => ?_) (fun b33 => ?_)
  replace h := ite_t b33 h
  refine T_reg [] [4] [] (mk 19 [(4, (di ((v_26 : Nat) : Int)))] [(5, (.var [(.dat (I comp_3))])), (6, (.var [(.dat (I 0)), (.dat (I 0)), (.dat nilS), (.dat (I 0)), (.dat nilS), (.dat (I 0)), (.dat (I 0)), (.dat (I 0)), (.dat (I 0))]))]) _ (by kernel_rfl) (z4 zt) ?_
  refine T_ret ?_
  replace h := up_inv h hy1
  refine ⟨[(di ((v_26 : Nat) : Int))], by kernel_rfl, ?_⟩
  refine TL_nilQ ?_
  exact Exists.intro ((v_26 : Nat) : Int) (And.intro h (arr [] [0, 1, 5, 6, 12] [] [5, 6] (by kernel_rfl)))
  replace h := ite_f b33 h
  refine T_skip ?_
  obtain ⟨c34, h⟩ := ckI_inv h
  exact T_regJ [(zd (I ((v_26 + 1 : Nat) : Int)))] [] [0, 1, 7, 8] [] [5, 6] _ _ (by kernel_rfl) (z1 (zc c34 (z2 zt))) (fun s hs => Exists.intro (v_26 + 1) (And.intro h hs))
  replace h := ite_f b28 h
  refine T_exit ?_
  replace h := up_inv h hy1
  exact Exists.intro () (And.intro h (arr [] [] [] [5, 6] (by kernel_rfl)))

theorem g_prizes_clubs_ret {l_1 : List Place} {r : List Int} (h : g_prizes_clubs l_1 = some r) : Ret Try.prog 17 [(.sl 14 (l_1.map encPlace))] (.sl 1 (r.map elI)) := by
  refine Ret.of_T Try.func17 (by kernel_rfl) rfl ?_
  refine T_turn [] [0] [] (mk 21 [(0, (dt (.sl 14 (l_1.map encPlace))))] []) (by kernel_rfl) ?_
  refine T_reg [] [0, 2] [] (mk 21 [(0, (dt (.sl 14 (l_1.map encPlace)))), (2, (dt nilS))] []) _ (by kernel_rfl) (z2 zt) ?_
  refine T_seqJ (α := List Int) (fun (l_2 : List Int) => (mk 21 [(2, (ow 16))] [(16, (.row 3 1 (l_2.map elI)))])) (fun (l_2 : List Int) => g_prizes_clubs_j1 l_2 = some r) (fun l_2 h => ?_) ?_
  refine T_seq (T_parts ?_)
  refine TL_part 1 [] (mk 21 [(2, (ow 16)), (18, (ow 16))] [(16, (.row 3 1 (l_2.map elI)))]) _ (by kernel_rfl) (z2 zt) rfl ?_
  obtain ⟨c3, h⟩ := ck_inv h
  refine TL_sortI 40 3 sort_okI rfl rfl (by kernel_rfl) 16 (by kernel_rfl) l_2 (by kernel_rfl) c3 ?_
  refine TL_turn [] [2, 19] [] (mk 21 [(2, (ow 16)), (19, (dt (.tup [])))] [(16, (.row 3 1 ((srtI l_2).map elI)))]) (by kernel_rfl) ?_
  refine TL_nilQ ?_
  refine T_turn [] [2] [] (mk 21 [(2, (ow 16))] [(16, (.row 3 1 ((srtI l_2).map elI)))]) (by kernel_rfl) ?_
  refine T_reg [] [2] [] (mk 21 [(2, (ow 16))] [(16, (.row 3 1 ((srtI l_2).map elI)))]) _ (by kernel_rfl) (z4 zt) ?_
  refine T_ret ?_
  obtain rfl := some_inv h
  exact ret_here [(ow 16)] (by kernel_rfl) rfl
  refine T_reg [zn, (zd (I ((l_1.length : Nat) : Int)))] [2, 5, 6, 7] [] (mk 21 [(2, (dt nilS)), (5, (dt (.sl 14 (l_1.map encPlace)))), (6, (di ((l_1.length : Nat) : Int))), (7, (di 0))] []) _ (by kernel_rfl) (z3 (zc (len_s encPlace l_1) (z2 zt))) ?_
  refine T_block ?_
  refine T_arr [.ownS 2 16 3 1] [2, 5, 6, 7] [] [16] _ (by kernel_rfl) (T_loopO (σ := Nat × (List Int)) (fun ((v_4, l_5) : Nat × (List Int)) => (mk 21 [(2, (ow 16)), (5, (dt (.sl 14 (l_1.map encPlace)))), (6, (di ((l_1.length : Nat) : Int))), (7, (di ((v_4 : Nat) : Int)))] [(16, (.row 3 1 (l_5.map elI)))])) (g_prizes_clubs_l2 l_1) (0, ([] : List Int)) h (fun v y1 hy1 h => ?_))
  obtain ⟨v_4, l_5⟩ := v
  refine T_reg [] [2, 5, 6, 7, 8] [] (mk 21 [(2, (ow 16)), (5, (dt (.sl 14 (l_1.map encPlace)))), (6, (di ((l_1.length : Nat) : Int))), (7, (di ((v_4 : Nat) : Int))), (8, (db (decide (((v_4 : Nat) : Int) < ((l_1.length : Nat) : Int)))))] [(16, (.row 3 1 (l_5.map elI)))]) _ (by kernel_rfl) (z2 zt) ?_
  refine T_seq ?_
  refine T_cond (decide (((v_4 : Nat) : Int) < ((l_1.length : Nat) : Int))) (by kernel_rfl) (fun b8 => ?_) (fun b8 => ?_)
  replace h := ite_t b8 h
  refine T_skip ?_
  refine T_seq ?_
  refine T_block ?_
  obtain ⟨x_9, e10, e11, e12, h⟩ := gn_inv encPlace h
  refine T_reg [(zd (encPlace x_9))] [2, 4, 5, 6, 7] [] (mk 21 [(2, (ow 16)), (4, (rf 4 0)), (5, (dt (.sl 14 (l_1.map encPlace)))), (6, (di ((l_1.length : Nat) : Int))), (7, (di ((v_4 : Nat) : Int)))] [(4, (.var (qPlace x_9))), (16, (.row 3 1 (l_5.map elI)))]) _ (by kernel_rfl) (z1 (zc e10 (z6 zt))) ?_
  obtain ⟨c13, h⟩ := ck_inv h
  refine T_regE (hl 6 [(5, (zd (.sl 1 ((l_5 ++ [x_9.r.c]).map elI))))]) (mk 21 [(2, (ow 16)), (4, (rf 4 0)), (5, (dt (.sl 14 (l_1.map encPlace)))), (6, (di ((l_1.length : Nat) : Int))), (7, (di ((v_4 : Nat) : Int))), (12, (rf 4 3)), (13, (rf 4 3)), (14, (di x_9.r.c)), (15, (ow 15)), (16, (ow 16))] [(16, (.row 3 1 ((l_5 ++ [x_9.r.c]).map elI))), (15, (.row 3 1 ([x_9.r.c].map elI))), (4, (.var (qPlace x_9)))]) _ (by kernel_rfl) (z8 (z1 (zc (show dfill (fun i => some (i * 1, 1)) (List.replicate (1 * 1) .junk) [(0, [(.dat (I x_9.r.c))])] = some ((flat ([x_9.r.c].map elI)).map .dat) from rfl) (z1 (zc (app_s elI elI_one l_5 ([x_9.r.c]) c13) (z2 zt)))))) ?_
  obtain ⟨c14, h⟩ := ckI_inv h
  exact T_regJ [(zd (I ((v_4 + 1 : Nat) : Int)))] [] [2, 5, 6, 7] [15, 4] [16] _ _ (by kernel_rfl) (z1 (zc c14 (z2 zt))) (fun s hs => Exists.intro (v_4 + 1, (l_5 ++ [x_9.r.c])) (And.intro h hs))
  replace h := ite_f b8 h
  refine T_exit ?_
  replace h := up_inv h hy1
  exact Exists.intro l_5 (And.intro h (arr [] [2] [] [16] (by kernel_rfl)))

theorem g_prizes_Moves_ret {t_1 : Tab} {s_2 : Sch} {r : (List Int) × (List Int) × Int} (h : g_prizes_Moves t_1 s_2 = some r) : Ret Try.prog 9 [(encTab t_1), (encSch s_2)] (.tup [(.sl 1 (r.1.map elI)), (.sl 1 (r.2.1.map elI)), (I r.2.2)]) := by
  refine Ret.of_T Try.func9 (by kernel_rfl) rfl ?_
  refine T_turn [] [0, 1] [] (mk 38 [(0, (.agg (qTab t_1))), (1, (.agg (qSch s_2)))] []) (by kernel_rfl) ?_
  refine T_reg [] [2, 3] [] (mk 38 [(2, (rf 2 0)), (3, (rf 3 0))] [(3, (.var (qSch s_2))), (2, (.var (qTab t_1)))]) _ (by kernel_rfl) (z8 (z2 zt)) ?_
  refine T_seq ?_
  obtain ⟨r_3, e4, h⟩ := bd_inv h
  refine T_reg [zn, zn, (zd (I r_3))] [2, 3, 6] [] (mk 38 [(2, (rf 2 0)), (3, (rf 3 0)), (6, (di r_3))] [(3, (.var (qSch s_2))), (2, (.var (qTab t_1)))]) _ (by kernel_rfl) (z5 (zc (g_prizes_fits_ret e4) (z2 zt))) ?_
  refine T_reg [] [2, 3, 6, 12] [] (mk 38 [(2, (rf 2 0)), (3, (rf 3 0)), (6, (di r_3)), (12, (db (r_3 != 0)))] [(3, (.var (qSch s_2))), (2, (.var (qTab t_1)))]) _ (by kernel_rfl) (z4 zt) ?_
  refine T_cond (r_3 != 0) (by kernel_rfl) (fun b5 => ?_) (fun b5 => ?_)
  replace h := ite_t b5 h
  refine T_reg [] [4, 5, 6] [3, 2] (mk 38 [(4, (dt nilS)), (5, (dt nilS)), (6, (di r_3))] []) _ (by kernel_rfl) (z8 zt) ?_
  refine T_ret ?_
  obtain rfl := some_inv h
  exact ret_here [(dt nilS), (dt nilS), (di r_3)] (by kernel_rfl) ⟨(.inr ⟨rfl, 1, rfl⟩), (.inr ⟨rfl, 1, rfl⟩), (.inl rfl), trivial⟩
  replace h := ite_f b5 h
  refine T_skip ?_
  refine T_reg [zn, zn, (zd (I ((t_1.l.length : Nat) : Int)))] [2, 3, 7] [] (mk 38 [(2, (rf 2 0)), (3, (rf 3 0)), (7, (di ((t_1.l.length : Nat) : Int)))] [(3, (.var (qSch s_2))), (2, (.var (qTab t_1)))]) _ (by kernel_rfl) (z5 (zc (len_s encPlace t_1.l) (z2 zt))) ?_
  refine T_seq ?_
  obtain ⟨c6, h⟩ := ckI_inv h
  refine T_reg (hl 5 [(4, (zd (I (s_2.u + s_2.d))))]) [2, 3, 7, 23] [] (mk 38 [(2, (rf 2 0)), (3, (rf 3 0)), (7, (di ((t_1.l.length : Nat) : Int))), (23, (db (decide ((s_2.u + s_2.d) > ((t_1.l.length : Nat) : Int)))))] [(3, (.var (qSch s_2))), (2, (.var (qTab t_1)))]) _ (by kernel_rfl) (z8 (z1 (zc c6 (z4 zt)))) ?_
  refine T_cond (decide ((s_2.u + s_2.d) > ((t_1.l.length : Nat) : Int))) (by kernel_rfl) (fun b7 => ?_) (fun b7 => ?_)
  replace h := ite_t b7 h
  refine T_reg [] [4, 5, 6] [3, 2] (mk 38 [(4, (dt nilS)), (5, (dt nilS)), (6, (di 420))] []) _ (by kernel_rfl) (z6 zt) ?_
  refine T_ret ?_
  obtain rfl := some_inv h
  exact ret_here [(dt nilS), (dt nilS), (di 420)] (by kernel_rfl) ⟨(.inr ⟨rfl, 1, rfl⟩), (.inr ⟨rfl, 1, rfl⟩), (.inl rfl), trivial⟩
  replace h := ite_f b7 h
  refine T_skip ?_
  obtain ⟨s_8, e9, h⟩ := sb_inv 14 encPlace h
  obtain ⟨r_10, e11, h⟩ := bd_inv h
  obtain ⟨c12, h⟩ := ckI_inv h
  obtain ⟨s_13, e14, h⟩ := sb_inv 14 encPlace h
  obtain ⟨r_15, e16, h⟩ := bd_inv h
  refine T_regD 17 [zn, zn, zn, zn, (zd (.sl 14 (s_8.map encPlace))), (zd (.sl 1 (r_10.map elI))), zn, zn, zn, zn, zn, (zd (I (((t_1.l.length : Nat) : Int) - s_2.d))), (zd (.sl 14 (s_13.map encPlace))), (zd (.sl 1 (r_15.map elI)))] [4, 5, 6] [3, 2] (mk 38 [(4, (dt (.sl 1 (r_10.map elI)))), (5, (dt (.sl 1 (r_15.map elI)))), (6, (di 0))] []) _ (by kernel_rfl) (by kernel_rfl) (by kernel_rfl) (zc (z8 (z1 (zc e9 (z1 (zc (g_prizes_clubs_ret e11) (z8 (z3 (zc c12 (z1 (zc e14 (z1 (zc (g_prizes_clubs_ret e16) (z6 zt))))))))))))) zt) ?_
  refine T_ret ?_
  obtain rfl := some_inv h
  exact ret_here [(dt (.sl 1 (r_10.map elI))), (dt (.sl 1 (r_15.map elI))), (di 0)] (by kernel_rfl) ⟨(.inl rfl), (.inl rfl), (.inl rfl), trivial⟩

theorem g_slices_Index_Lint_int_ret {s_1 : List Int} {v_2 : Int} {r : Int} (h : g_slices_Index_Lint_int s_1 v_2 = some r) : Ret Try.prog 41 [(.sl 1 (s_1.map elI)), (I v_2)] (I r) := by
  refine Ret.of_T Try.func41 (by kernel_rfl) rfl ?_
  refine T_turn [] [0, 1] [] (mk 19 [(0, (dt (.sl 1 (s_1.map elI)))), (1, (di v_2))] []) (by kernel_rfl) ?_
  refine T_reg [] [0, 1] [] (mk 19 [(0, (dt (.sl 1 (s_1.map elI)))), (1, (di v_2))] []) _ (by kernel_rfl) (z2 zt) ?_
  refine T_seqJ (α := Unit) (fun (_ : Unit) => (mk 19 [] [])) (fun (_ : Unit) => g_slices_Index_Lint_int_j1 = some r) (fun v h => ?_) ?_
  refine T_reg [] [4] [] (mk 19 [(4, (di (-1)))] []) _ (by kernel_rfl) (z2 zt) ?_
  refine T_ret ?_
  obtain rfl := some_inv h
  exact ret_here [(di (-1))] (by kernel_rfl) (.inl rfl)
  refine T_reg [zn, (zd (I ((s_1.length : Nat) : Int)))] [0, 1, 7, 8] [] (mk 19 [(0, (dt (.sl 1 (s_1.map elI)))), (1, (di v_2)), (7, (di ((s_1.length : Nat) : Int))), (8, (di 0))] []) _ (by kernel_rfl) (z3 (zc (len_s elI s_1) (z2 zt))) ?_
  refine T_block ?_
  refine T_arr [] [0, 1, 7, 8] [] [] _ (by kernel_rfl) (T_loopO (σ := Nat) (fun (v_3 : Nat) => (mk 19 [(0, (dt (.sl 1 (s_1.map elI)))), (1, (di v_2)), (7, (di ((s_1.length : Nat) : Int))), (8, (di ((v_3 : Nat) : Int)))] [])) (g_slices_Index_Lint_int_l2 s_1 v_2) 0 h (fun v_3 y1 hy1 h => ?_))
  refine T_reg [] [0, 1, 7, 8, 9] [] (mk 19 [(0, (dt (.sl 1 (s_1.map elI)))), (1, (di v_2)), (7, (di ((s_1.length : Nat) : Int))), (8, (di ((v_3 : Nat) : Int))), (9, (db (decide (((v_3 : Nat) : Int) < ((s_1.length : Nat) : Int)))))] []) _ (by kernel_rfl) (z2 zt) ?_
  refine T_seq ?_
  refine T_cond (decide (((v_3 : Nat) : Int) < ((s_1.length : Nat) : Int))) (by kernel_rfl) (fun b5 => ?_) (fun b5 => ?_)
  replace h := ite_t b5 h
  refine T_skip ?_
  refine T_seq ?_
  refine T_block ?_
  refine T_reg [] [0, 1, 5, 7, 8] [] (mk 19 [(0, (dt (.sl 1 (s_1.map elI)))), (1, (di v_2)), (5, (di ((v_3 : Nat) : Int))), (7, (di ((s_1.length : Nat) : Int))), (8, (di ((v_3 : Nat) : Int)))] []) _ (by kernel_rfl) (z4 zt) ?_
  obtain ⟨x_6, e7, e8, e9, h⟩ := gn_inv elI h
  refine T_reg [zn, zn, zn, (zd (I x_6))] [0, 1, 5, 7, 8, 16] [] (mk 19 [(0, (dt (.sl 1 (s_1.map elI)))), (1, (di v_2)), (5, (di ((v_3 : Nat) : Int))), (7, (di ((s_1.length : Nat) : Int))), (8, (di ((v_3 : Nat) : Int))), (16, (db (v_2 == x_6)))] []) _ (by kernel_rfl) (z7 (zc e7 (z4 zt))) ?_
  refine T_cond (v_2 == x_6) (by kernel_rfl) (fun b10 => ?_) (fun b10 => ?_)
  replace h := ite_t b10 h
  refine T_reg [] [4] [] (mk 19 [(4, (di ((v_3 : Nat) : Int)))] []) _ (by kernel_rfl) (z4 zt) ?_
  refine T_ret ?_
  replace h := up_inv h hy1
  obtain rfl := some_inv h
  exact ret_here [(di ((v_3 : Nat) : Int))] (by kernel_rfl) (.inl rfl)
  replace h := ite_f b10 h
  refine T_skip ?_
  obtain ⟨c11, h⟩ := ckI_inv h
  exact T_regJ [(zd (I ((v_3 + 1 : Nat) : Int)))] [] [0, 1, 7, 8] [] [] _ _ (by kernel_rfl) (z1 (zc c11 (z2 zt))) (fun s hs => Exists.intro (v_3 + 1) (And.intro h hs))
  replace h := ite_f b5 h
  refine T_exit ?_
  replace h := up_inv h hy1
  exact Exists.intro () (And.intro h (arr [] [] [] [] (by kernel_rfl)))

theorem g_slices_Contains_Lint_int_ret {s_1 : List Int} {v_2 : Int} {r : Bool} (h : g_slices_Contains_Lint_int s_1 v_2 = some r) : Ret Try.prog 19 [(.sl 1 (s_1.map elI)), (I v_2)] (B (r)) := by
  refine Ret.of_T Try.func19 (by kernel_rfl) rfl ?_
  refine T_turn [] [0, 1] [] (mk 9 [(0, (dt (.sl 1 (s_1.map elI)))), (1, (di v_2))] []) (by kernel_rfl) ?_
  refine T_reg [] [0, 1] [] (mk 9 [(0, (dt (.sl 1 (s_1.map elI)))), (1, (di v_2))] []) _ (by kernel_rfl) (z2 zt) ?_
  obtain ⟨r_3, e4, h⟩ := bd_inv h
  refine T_reg [zn, zn, (zd (I r_3))] [4] [] (mk 9 [(4, (db (decide (r_3 ≥ 0))))] []) _ (by kernel_rfl) (z5 (zc (g_slices_Index_Lint_int_ret e4) (z4 zt))) ?_
  refine T_ret ?_
  obtain rfl := some_inv h
  exact ret_here [(db (decide (r_3 ≥ 0)))] (by kernel_rfl) (.inl rfl)

end Go.Proofs.Ytoiiblkncbnlaaa

/-
  Go functions as partial functions, printed by auto.py: what each returns when its partial function has a value. Conditions: those of each theorem.
-/
namespace Go.Proofs.Ytoiiblkncbnlaaa
open Go.DL
set_option maxRecDepth 100000
set_option maxHeartbeats 4000000
set_option linter.unusedVariables false
set_option linter.unusedSimpArgs false
theorem g_prizes_Next_ret {tables_1 : List Tab} {schemes_2 : List Sch} {comp_3 : Int} {r : (List Int) × Int} (h : g_prizes_Next tables_1 schemes_2 comp_3 = some r) : Ret Try.prog 6 [(.sl 3 (tables_1.map encTab)), (.sl 6 (schemes_2.map encSch)), (I comp_3)] (.tup [(.sl 1 (r.1.map elI)), (I r.2)]) := by
  refine Ret.of_T Try.func6 (by kernel_rfl) rfl ?_
  refine T_turn [] [0, 1, 2] [] (mk 163 [(0, (dt (.sl 3 (tables_1.map encTab)))), (1, (dt (.sl 6 (schemes_2.map encSch)))), (2, (di comp_3))] []) (by kernel_rfl) ?_
  refine T_reg [] [0, 1, 2] [] (mk 163 [(0, (dt (.sl 3 (tables_1.map encTab)))), (1, (dt (.sl 6 (schemes_2.map encSch)))), (2, (di comp_3))] []) _ (by kernel_rfl) (z4 zt) ?_
  obtain ⟨r_4, e5, h⟩ := bd_inv h
  refine T_reg [zn, zn, zn, (zd (.tup [(encLeague r_4.1), (B (r_4.2))]))] [0, 1, 2, 8, 9] [] (mk 163 [(0, (dt (.sl 3 (tables_1.map encTab)))), (1, (dt (.sl 6 (schemes_2.map encSch)))), (2, (di comp_3)), (8, (rf 8 0)), (9, (db (r_4.2)))] [(8, (.var (qLeague r_4.1)))]) _ (by kernel_rfl) (z7 (zc (g_prizes_of_ret e5) (z8 (z4 zt)))) ?_
  refine T_seq ?_
  refine T_reg [] [0, 1, 2, 8, 33] [] (mk 163 [(0, (dt (.sl 3 (tables_1.map encTab)))), (1, (dt (.sl 6 (schemes_2.map encSch)))), (2, (di comp_3)), (8, (rf 8 0)), (33, (db (!(r_4.2))))] [(8, (.var (qLeague r_4.1)))]) _ (by kernel_rfl) (z4 zt) ?_
  refine T_cond (!(r_4.2)) (by kernel_rfl) (fun b6 => ?_) (fun b6 => ?_)
  replace h := ite_t b6 h
  refine T_reg [] [6, 7] [8] (mk 163 [(6, (dt nilS)), (7, (di 420))] []) _ (by kernel_rfl) (z4 zt) ?_
  refine T_ret ?_
  obtain rfl := some_inv h
  exact ret_here [(dt nilS), (di 420)] (by kernel_rfl) ⟨(.inr ⟨rfl, 1, rfl⟩), (.inl rfl), trivial⟩
  replace h := ite_f b6 h
  refine T_skip ?_
  obtain ⟨r_7, e8, h⟩ := bd_inv h
  refine T_reg (hl 5 [(4, (zd (.tup [(.sl 1 (r_7.1.map elI)), (.sl 1 (r_7.2.1.map elI)), (I r_7.2.2)])))]) [0, 1, 2, 7, 8, 10, 11] [] (mk 163 [(0, (dt (.sl 3 (tables_1.map encTab)))), (1, (dt (.sl 6 (schemes_2.map encSch)))), (2, (di comp_3)), (7, (di r_7.2.2)), (8, (rf 8 0)), (10, (rf 10 0)), (11, (rf 11 0))] [(11, (.var [(.dat (.sl 1 (r_7.2.1.map elI)))])), (10, (.var [(.dat (.sl 1 (r_7.1.map elI)))])), (8, (.var (qLeague r_4.1)))]) _ (by kernel_rfl) (z8 (z1 (zc (g_prizes_Moves_ret e8) (z8 (z8 (z2 zt)))))) ?_
  refine T_seq ?_
  refine T_reg [] [0, 1, 2, 7, 8, 10, 11, 44] [] (mk 163 [(0, (dt (.sl 3 (tables_1.map encTab)))), (1, (dt (.sl 6 (schemes_2.map encSch)))), (2, (di comp_3)), (7, (di r_7.2.2)), (8, (rf 8 0)), (10, (rf 10 0)), (11, (rf 11 0)), (44, (db (r_7.2.2 != 0)))] [(11, (.var [(.dat (.sl 1 (r_7.2.1.map elI)))])), (10, (.var [(.dat (.sl 1 (r_7.1.map elI)))])), (8, (.var (qLeague r_4.1)))]) _ (by kernel_rfl) (z4 zt) ?_
  refine T_cond (r_7.2.2 != 0) (by kernel_rfl) (fun b9 => ?_) (fun b9 => ?_)
  replace h := ite_t b9 h
  refine T_reg [] [6, 7] [11, 10, 8] (mk 163 [(6, (dt nilS)), (7, (di r_7.2.2))] []) _ (by kernel_rfl) (z6 zt) ?_
  refine T_ret ?_
  obtain rfl := some_inv h
  exact ret_here [(dt nilS), (di r_7.2.2)] (by kernel_rfl) ⟨(.inr ⟨rfl, 1, rfl⟩), (.inl rfl), trivial⟩
  replace h := ite_f b9 h
  refine T_skip ?_
  refine T_reg [] [0, 1, 2, 8, 10, 11, 12] [] (mk 163 [(0, (dt (.sl 3 (tables_1.map encTab)))), (1, (dt (.sl 6 (schemes_2.map encSch)))), (2, (di comp_3)), (8, (rf 8 0)), (10, (rf 10 0)), (11, (rf 11 0)), (12, (rf 12 0))] [(12, (.var [(.dat (I 0))])), (11, (.var [(.dat (.sl 1 (r_7.2.1.map elI)))])), (10, (.var [(.dat (.sl 1 (r_7.1.map elI)))])), (8, (.var (qLeague r_4.1)))]) _ (by kernel_rfl) (z4 zt) ?_
  refine T_seq (T_parts ?_)
  refine TL_makeMap 27 3 4 46 46 rfl rfl rfl (by kernel_rfl) (by decide) ?_
  refine TL_turn [] [0, 1, 2, 8, 10, 11, 12, 46] [] (mk 163 [(0, (dt (.sl 3 (tables_1.map encTab)))), (1, (dt (.sl 6 (schemes_2.map encSch)))), (2, (di comp_3)), (8, (rf 8 0)), (10, (rf 10 0)), (11, (rf 11 0)), (12, (rf 12 0)), (46, (ow 46))] [(46, (.map Try.prog 3 4 (mapS ([] : List Int)))), (12, (.var [(.dat (I 0))])), (11, (.var [(.dat (.sl 1 (r_7.2.1.map elI)))])), (10, (.var [(.dat (.sl 1 (r_7.1.map elI)))])), (8, (.var (qLeague r_4.1)))]) (by kernel_rfl) ?_
  refine TL_part 2 [] (mk 163 [(0, (dt (.sl 3 (tables_1.map encTab)))), (1, (dt (.sl 6 (schemes_2.map encSch)))), (2, (di comp_3)), (8, (rf 8 0)), (10, (rf 10 0)), (11, (rf 11 0)), (12, (rf 12 0)), (13, (rf 13 0)), (46, (ow 46))] [(13, (.var [(.own 46)])), (46, (.map Try.prog 3 4 (mapS ([] : List Int)))), (12, (.var [(.dat (I 0))])), (11, (.var [(.dat (.sl 1 (r_7.2.1.map elI)))])), (10, (.var [(.dat (.sl 1 (r_7.1.map elI)))])), (8, (.var (qLeague r_4.1)))]) _ (by kernel_rfl) (z4 zt) rfl ?_
  refine TL_nilQ ?_
  refine T_turn [] [0, 1, 2, 8, 10, 11, 12, 13] [] (mk 163 [(0, (dt (.sl 3 (tables_1.map encTab)))), (1, (dt (.sl 6 (schemes_2.map encSch)))), (2, (di comp_3)), (8, (rf 8 0)), (10, (rf 10 0)), (11, (rf 11 0)), (12, (rf 12 0)), (13, (rf 13 0))] [(13, (.var [(.own 46)])), (46, (.map Try.prog 3 4 (mapS ([] : List Int)))), (12, (.var [(.dat (I 0))])), (11, (.var [(.dat (.sl 1 (r_7.2.1.map elI)))])), (10, (.var [(.dat (.sl 1 (r_7.1.map elI)))])), (8, (.var (qLeague r_4.1)))]) (by kernel_rfl) ?_
  refine T_reg [] [0, 1, 2, 8, 10, 11, 12, 13, 14] [] (mk 163 [(0, (dt (.sl 3 (tables_1.map encTab)))), (1, (dt (.sl 6 (schemes_2.map encSch)))), (2, (di comp_3)), (8, (rf 8 0)), (10, (rf 10 0)), (11, (rf 11 0)), (12, (rf 12 0)), (13, (rf 13 0)), (14, (.one (.fn 15 [.inl 13, .inl 12])))] [(13, (.var [(.own 46)])), (46, (.map Try.prog 3 4 (mapS ([] : List Int)))), (12, (.var [(.dat (I 0))])), (11, (.var [(.dat (.sl 1 (r_7.2.1.map elI)))])), (10, (.var [(.dat (.sl 1 (r_7.1.map elI)))])), (8, (.var (qLeague r_4.1)))]) _ (by kernel_rfl) (z4 zt) ?_
  refine T_seqJ (α := Nat × (List Int)) (fun ((v_10, m_11) : Nat × (List Int)) => (mk 163 [(0, (dt (.sl 3 (tables_1.map encTab)))), (1, (dt (.sl 6 (schemes_2.map encSch)))), (2, (di comp_3)), (8, (rf 8 0)), (10, (rf 10 0)), (11, (rf 11 0)), (12, (rf 12 0)), (13, (rf 13 0)), (14, (.one (.fn 15 [.inl 13, .inl 12])))] [(8, (.var (qLeague r_4.1))), (10, (.var [(.dat (.sl 1 (r_7.1.map elI)))])), (11, (.var [(.dat (.sl 1 (r_7.2.1.map elI)))])), (12, (.var [(.dat (I ((v_10 : Nat) : Int)))])), (13, (.var [(.own 46)])), (46, (.map Try.prog 3 4 (mapS m_11)))])) (fun ((v_10, m_11) : Nat × (List Int)) => g_prizes_Next_j1 r_4 tables_1 schemes_2 r_7 comp_3 v_10 m_11 = some r) (fun v h => ?_) ?_
  obtain ⟨v_10, m_11⟩ := v
  refine T_seqJ (α := Nat × (List Int)) (fun ((v_12, m_13) : Nat × (List Int)) => (mk 163 [(8, (rf 8 0)), (10, (rf 10 0)), (11, (rf 11 0)), (12, (rf 12 0)), (13, (rf 13 0)), (14, (.one (.fn 15 [.inl 13, .inl 12])))] [(8, (.var (qLeague r_4.1))), (10, (.var [(.dat (.sl 1 (r_7.1.map elI)))])), (11, (.var [(.dat (.sl 1 (r_7.2.1.map elI)))])), (12, (.var [(.dat (I ((v_12 : Nat) : Int)))])), (13, (.var [(.own 46)])), (46, (.map Try.prog 3 4 (mapS m_13)))])) (fun ((v_12, m_13) : Nat × (List Int)) => g_prizes_Next_j2 r_4 r_7 v_12 m_13 = some r) (fun v h => ?_) ?_
  obtain ⟨v_12, m_13⟩ := v
  refine T_seq (T_parts ?_)
  refine TL_part 4 [] (mk 163 [(8, (rf 8 0)), (10, (rf 10 0)), (11, (rf 11 0)), (12, (rf 12 0)), (13, (rf 13 0)), (14, (.one (.fn 15 [.inl 13, .inl 12]))), (140, (.one (.fn 15 [.inl 13, .inl 12]))), (141, (rf 8 0)), (142, (rf 8 2)), (143, (dt (.sl 14 (r_4.1.table.l.map encPlace))))] [(8, (.var (qLeague r_4.1))), (10, (.var [(.dat (.sl 1 (r_7.1.map elI)))])), (11, (.var [(.dat (.sl 1 (r_7.2.1.map elI)))])), (12, (.var [(.dat (I ((v_12 : Nat) : Int)))])), (13, (.var [(.own 46)])), (46, (.map Try.prog 3 4 (mapS m_13)))]) _ (by kernel_rfl) (z8 zt) rfl ?_
  refine TL_consJ (α := List Int) (fun (l_14 : List Int) => (mk 163 [(10, (rf 10 0)), (11, (rf 11 0)), (12, (rf 12 0)), (13, (rf 13 0)), (140, (.one (.fn 15 [.inl 13, .inl 12]))), (144, (ow 179))] [(10, (.var [(.dat (.sl 1 (r_7.1.map elI)))])), (11, (.var [(.dat (.sl 1 (r_7.2.1.map elI)))])), (12, (.var [(.dat (I ((v_12 : Nat) : Int)))])), (13, (.var [(.own 46)])), (46, (.map Try.prog 3 4 (mapS m_13))), (179, (.row 3 1 (l_14.map elI)))])) (fun (l_14 : List Int) => g_prizes_Next_j3 r_7 v_12 m_13 l_14 = some r) (fun l_14 h => ?_) ?_
  refine TL_turn [] [10, 11, 12, 13, 140, 144] [] (mk 163 [(10, (rf 10 0)), (11, (rf 11 0)), (12, (rf 12 0)), (13, (rf 13 0)), (140, (.one (.fn 15 [.inl 13, .inl 12]))), (144, (ow 179))] [(10, (.var [(.dat (.sl 1 (r_7.1.map elI)))])), (11, (.var [(.dat (.sl 1 (r_7.2.1.map elI)))])), (12, (.var [(.dat (I ((v_12 : Nat) : Int)))])), (13, (.var [(.own 46)])), (46, (.map Try.prog 3 4 (mapS m_13))), (179, (.row 3 1 (l_14.map elI)))]) (by kernel_rfl) ?_
  refine TL_part 1 [] (mk 163 [(10, (rf 10 0)), (11, (rf 11 0)), (12, (rf 12 0)), (13, (rf 13 0)), (140, (.one (.fn 15 [.inl 13, .inl 12]))), (144, (ow 179)), (145, (.one (.fn 18 [.inl 10, .inl 11])))] [(10, (.var [(.dat (.sl 1 (r_7.1.map elI)))])), (11, (.var [(.dat (.sl 1 (r_7.2.1.map elI)))])), (12, (.var [(.dat (I ((v_12 : Nat) : Int)))])), (13, (.var [(.own 46)])), (46, (.map Try.prog 3 4 (mapS m_13))), (179, (.row 3 1 (l_14.map elI)))]) _ (by kernel_rfl) (z2 zt) rfl ?_
  refine TL_consJ (α := Nat × Nat × (List Int)) (fun ((p_15, p_16, l_17) : Nat × Nat × (List Int)) => (mk 163 [(12, (rf 12 0)), (13, (rf 13 0)), (140, (.one (.fn 15 [.inl 13, .inl 12]))), (146, (.one (.part 179 p_15 p_16)))] [(12, (.var [(.dat (I ((v_12 : Nat) : Int)))])), (13, (.var [(.own 46)])), (46, (.map Try.prog 3 4 (mapS m_13))), (179, (.row 3 1 (l_17.map elI)))])) (fun ((p_15, p_16, l_17) : Nat × Nat × (List Int)) => g_prizes_Next_j4 v_12 m_13 p_15 p_16 l_17 = some r) (fun v h => ?_) ?_
  obtain ⟨p_15, p_16, l_17⟩ := v
  refine TL_turn [] [12, 13, 140, 146] [] (mk 163 [(12, (rf 12 0)), (13, (rf 13 0)), (140, (.one (.fn 15 [.inl 13, .inl 12]))), (146, (.one (.part 179 p_15 p_16)))] [(12, (.var [(.dat (I ((v_12 : Nat) : Int)))])), (13, (.var [(.own 46)])), (46, (.map Try.prog 3 4 (mapS m_13))), (179, (.row 3 1 (l_17.map elI)))]) (by kernel_rfl) ?_
  refine TL_consJ (α := Nat × (List Int)) (fun ((v_18, m_19) : Nat × (List Int)) => (mk 163 [(12, (rf 12 0)), (13, (rf 13 0)), (147, (.tup []))] [(12, (.var [(.dat (I ((v_18 : Nat) : Int)))])), (13, (.var [(.own 46)])), (46, (.map Try.prog 3 4 (mapS m_19)))])) (fun ((v_18, m_19) : Nat × (List Int)) => g_prizes_Next_j5 v_18 m_19 = some r) (fun v h => ?_) ?_
  obtain ⟨v_18, m_19⟩ := v
  refine TL_turn [] [12, 13, 147] [] (mk 163 [(12, (rf 12 0)), (13, (rf 13 0)), (147, (.tup []))] [(12, (.var [(.dat (I ((v_18 : Nat) : Int)))])), (13, (.var [(.own 46)])), (46, (.map Try.prog 3 4 (mapS m_19)))]) (by kernel_rfl) ?_
  refine TL_nilQ ?_
  refine T_turn [] [12, 13] [] (mk 163 [(12, (rf 12 0)), (13, (rf 13 0))] [(12, (.var [(.dat (I ((v_18 : Nat) : Int)))])), (13, (.var [(.own 46)])), (46, (.map Try.prog 3 4 (mapS m_19)))]) (by kernel_rfl) ?_
  refine T_seq ?_
  refine T_seqJ (α := Bool) (fun (v_20 : Bool) => (mk 163 [(13, (rf 13 0)), (159, (db (v_20)))] [(13, (.var [(.own 46)])), (46, (.map Try.prog 3 4 (mapS m_19)))])) (fun (v_20 : Bool) => g_prizes_Next_j6 m_19 v_20 = some r) (fun v_20 h => ?_) ?_
  refine T_cond (v_20) (by kernel_rfl) (fun b21 => ?_) (fun b21 => ?_)
  replace h := ite_t b21 h
  refine T_reg [] [6, 7] [13, 46] (mk 163 [(6, (dt nilS)), (7, (di 190))] []) _ (by kernel_rfl) (z4 zt) ?_
  refine T_ret ?_
  obtain rfl := some_inv h
  exact ret_here [(dt nilS), (di 190)] (by kernel_rfl) ⟨(.inr ⟨rfl, 1, rfl⟩), (.inl rfl), trivial⟩
  replace h := ite_f b21 h
  refine T_skip ?_
  refine T_seq (T_parts ?_)
  refine TL_part 1 [] (mk 163 [(13, (rf 13 0)), (159, (db (v_20))), (160, (ow 46))] [(13, (.var [(.own 46)])), (46, (.map Try.prog 3 4 (mapS m_19)))]) _ (by kernel_rfl) (z2 zt) rfl ?_
  obtain ⟨c22, h⟩ := ck_inv h
  obtain ⟨c23, h⟩ := ck_inv h
  refine TL_keysS 21 20 3 4 3 keys_okS 161 162 162 46 rfl rfl (by kernel_rfl) rfl rfl rfl (by kernel_rfl) rfl (by kernel_rfl) (by kernel_rfl) m_19 (by kernel_rfl) c22 c23 (by decide) ?_
  refine TL_turn [] [162] [13, 46] (mk 163 [(162, (ow 162))] [(162, (.row 3 1 (m_19.map elI)))]) (by kernel_rfl) ?_
  refine TL_part 2 [] (mk 163 [(6, (ow 162)), (7, (di 0)), (162, (ow 162))] [(162, (.row 3 1 (m_19.map elI)))]) _ (by kernel_rfl) (z4 zt) rfl ?_
  refine TL_nilQ ?_
  refine T_turn [] [6, 7] [] (mk 163 [(6, (ow 162)), (7, (di 0))] [(162, (.row 3 1 (m_19.map elI)))]) (by kernel_rfl) ?_
  refine T_ret ?_
  obtain rfl := some_inv h
  exact ret_here [(ow 162), (di 0)] (by kernel_rfl) ⟨rfl, (.inl rfl), trivial⟩
  rcases Bool.eq_false_or_eq_true (((m_19.length : Nat) : Int) != ((v_18 : Nat) : Int)) with b24 | b24
  replace h := ite_t b24 h
  exact T_regJ [zn, (zd (I ((m_19.length : Nat) : Int))), zn, zn, zn, zg, zg, (zd (B true)), zn, zg, zg, (zd (B true))] [] [13, 159] [12] [13, 46] _ _ (by kernel_rfl) (z3 (zc (And.intro (And.intro (rfl : Try.prog = Try.prog) (show Try.prog.underlying 27 = some (.map 3 4) by kernel_rfl)) (lenS m_19)) (z6 (zc (gd_tf b24) (zc (gd_tf b24) (z1 (zc b24 (z2 (zc (gd_tf (rfl : true = true)) (zc (gd_tf (rfl : true = true)) (z1 (zc (rfl : true = true) zt)))))))))))) (fun s hs => Exists.intro true (And.intro h hs))
  replace h := ite_f b24 h
  rcases Bool.eq_false_or_eq_true (decide (((v_18 : Nat) : Int) < 2)) with b25 | b25
  replace h := ite_t b25 h
  exact T_regJ [zn, (zd (I ((m_19.length : Nat) : Int))), zn, zn, zn, zn, zn, (zd (B false)), zn, zg, zg, (zd (B true))] [] [13, 159] [12] [13, 46] _ _ (by kernel_rfl) (z3 (zc (And.intro (And.intro (rfl : Try.prog = Try.prog) (show Try.prog.underlying 27 = some (.map 3 4) by kernel_rfl)) (lenS m_19)) (z6 (zc (gd_ff b24) (z1 (zc (gd_ff b24) (z2 (zc b24 (z2 (zc (gd_tf b25) (zc (gd_tf b25) (z1 (zc b25 zt))))))))))))) (fun s hs => Exists.intro true (And.intro h hs))
  replace h := ite_f b25 h
  exact T_regJ (hl 12 [(1, (zd (I ((m_19.length : Nat) : Int)))), (7, (zd (B false))), (11, (zd (B false)))]) [] [13, 159] [12] [13, 46] _ _ (by kernel_rfl) (z3 (zc (And.intro (And.intro (rfl : Try.prog = Try.prog) (show Try.prog.underlying 27 = some (.map 3 4) by kernel_rfl)) (lenS m_19)) (z6 (zc (gd_ff b24) (z1 (zc (gd_ff b24) (z2 (zc b24 (z2 (zc (gd_ff b25) (z1 (zc (gd_ff b25) (z2 (zc b25 zt)))))))))))))) (fun s hs => Exists.intro (decide (((v_18 : Nat) : Int) > 24)) (And.intro h hs))
  refine TL_inline 180 15 [.inl 13, .inl 12] Try.f15 _ rfl rfl (by kernel_rfl) Try.func15 rfl rfl (by decide) ?_
  refine T_turn [] [0, 1, 2] [] (mk 17 [(0, (.one (.part 179 p_15 p_16))), (1, (rf 13 0)), (2, (rf 12 0))] [(12, (.var [(.dat (I ((v_12 : Nat) : Int)))])), (13, (.var [(.own 46)])), (46, (.map Try.prog 3 4 (mapS m_13))), (179, (.row 3 1 (l_17.map elI)))]) (by kernel_rfl) ?_
  refine T_reg [] [1, 2, 6, 7, 8] [] (mk 17 [(1, (rf 13 0)), (2, (rf 12 0)), (6, (.one (.part 179 p_15 p_16))), (7, (di ((p_16 : Nat) : Int))), (8, (di 0))] [(12, (.var [(.dat (I ((v_12 : Nat) : Int)))])), (13, (.var [(.own 46)])), (46, (.map Try.prog 3 4 (mapS m_13))), (179, (.row 3 1 (l_17.map elI)))]) _ (by kernel_rfl) (z6 zt) ?_
  refine T_block ?_
  refine T_arr [] [1, 2, 6, 7, 8] [] [12, 13, 46, 179] _ (by kernel_rfl) (T_loopO (σ := Nat × Nat × (List Int)) (fun ((v_26, v_27, m_28) : Nat × Nat × (List Int)) => (mk 17 [(1, (rf 13 0)), (2, (rf 12 0)), (6, (.one (.part 179 p_15 p_16))), (7, (di ((p_16 : Nat) : Int))), (8, (di ((v_26 : Nat) : Int)))] [(12, (.var [(.dat (I ((v_27 : Nat) : Int)))])), (13, (.var [(.own 46)])), (46, (.map Try.prog 3 4 (mapS m_28))), (179, (.row 3 1 (l_17.map elI)))])) (g_prizes_Next_l7 p_16 l_17 p_15) (0, v_12, m_13) h (fun v y1 hy1 h => ?_))
  obtain ⟨v_26, v_27, m_28⟩ := v
  refine T_reg [] [1, 2, 6, 7, 8, 9] [] (mk 17 [(1, (rf 13 0)), (2, (rf 12 0)), (6, (.one (.part 179 p_15 p_16))), (7, (di ((p_16 : Nat) : Int))), (8, (di ((v_26 : Nat) : Int))), (9, (db (decide (((v_26 : Nat) : Int) < ((p_16 : Nat) : Int)))))] [(12, (.var [(.dat (I ((v_27 : Nat) : Int)))])), (13, (.var [(.own 46)])), (46, (.map Try.prog 3 4 (mapS m_28))), (179, (.row 3 1 (l_17.map elI)))]) _ (by kernel_rfl) (z2 zt) ?_
  refine T_seq ?_
  refine T_cond (decide (((v_26 : Nat) : Int) < ((p_16 : Nat) : Int))) (by kernel_rfl) (fun b32 => ?_) (fun b32 => ?_)
  replace h := ite_t b32 h
  refine T_skip ?_
  refine T_seq ?_
  refine T_block ?_
  obtain ⟨c33, h⟩ := ck_inv h
  obtain ⟨x_34, e35, e36, e37, h⟩ := gn_inv elI h
  refine T_reg [zn, (zd (I x_34))] [1, 2, 5, 6, 7, 8] [] (mk 17 [(1, (rf 13 0)), (2, (rf 12 0)), (5, (di x_34)), (6, (.one (.part 179 p_15 p_16))), (7, (di ((p_16 : Nat) : Int))), (8, (di ((v_26 : Nat) : Int)))] [(12, (.var [(.dat (I ((v_27 : Nat) : Int)))])), (13, (.var [(.own 46)])), (46, (.map Try.prog 3 4 (mapS m_28))), (179, (.row 3 1 (l_17.map elI)))]) _ (by kernel_rfl) (z1 (zc c33 (z1 (zc e37 (z2 zt))))) ?_
  refine T_seq (T_parts ?_)
  refine TL_part 2 [] (mk 17 [(1, (rf 13 0)), (2, (rf 12 0)), (5, (di x_34)), (6, (.one (.part 179 p_15 p_16))), (7, (di ((p_16 : Nat) : Int))), (8, (di ((v_26 : Nat) : Int))), (12, (ow 46)), (13, (di x_34))] [(12, (.var [(.dat (I ((v_27 : Nat) : Int)))])), (13, (.var [(.own 46)])), (46, (.map Try.prog 3 4 (mapS m_28))), (179, (.row 3 1 (l_17.map elI)))]) _ (by kernel_rfl) (z4 zt) rfl ?_
  obtain ⟨c38, h⟩ := ckI_in h
  obtain ⟨c39, h⟩ := ck_inv h
  refine TL_setPut 27 3 4 46 _ _ _ m_28 x_34 rfl rfl (by kernel_rfl) (by kernel_rfl) (by kernel_rfl) (by kernel_rfl) (by kernel_rfl) (by kernel_rfl) (by kernel_rfl) c38 c39 ?_
  refine TL_turn [] [1, 2, 6, 7, 8] [] (mk 17 [(1, (rf 13 0)), (2, (rf 12 0)), (6, (.one (.part 179 p_15 p_16))), (7, (di ((p_16 : Nat) : Int))), (8, (di ((v_26 : Nat) : Int)))] [(12, (.var [(.dat (I ((v_27 : Nat) : Int)))])), (13, (.var [(.own 46)])), (46, (.map Try.prog 3 4 (mapS (sput m_28 x_34)))), (179, (.row 3 1 (l_17.map elI)))]) (by kernel_rfl) ?_
  refine TL_nilQ ?_
  refine T_turn [] [1, 2, 6, 7, 8] [] (mk 17 [(1, (rf 13 0)), (2, (rf 12 0)), (6, (.one (.part 179 p_15 p_16))), (7, (di ((p_16 : Nat) : Int))), (8, (di ((v_26 : Nat) : Int)))] [(12, (.var [(.dat (I ((v_27 : Nat) : Int)))])), (13, (.var [(.own 46)])), (46, (.map Try.prog 3 4 (mapS (sput m_28 x_34)))), (179, (.row 3 1 (l_17.map elI)))]) (by kernel_rfl) ?_
  obtain ⟨c40, h⟩ := ckI_inv h
  refine T_regE [zn, (zd (I ((v_27 + 1 : Nat) : Int)))] (mk 17 [(1, (rf 13 0)), (2, (rf 12 0)), (6, (.one (.part 179 p_15 p_16))), (7, (di ((p_16 : Nat) : Int))), (8, (di ((v_26 : Nat) : Int))), (14, (di ((v_27 : Nat) : Int))), (15, (di ((v_27 + 1 : Nat) : Int)))] [(12, (.var [(.dat (I ((v_27 + 1 : Nat) : Int)))])), (13, (.var [(.own 46)])), (46, (.map Try.prog 3 4 (mapS (sput m_28 x_34)))), (179, (.row 3 1 (l_17.map elI)))]) _ (by kernel_rfl) (z3 (zc c40 (z2 zt))) ?_
  obtain ⟨c41, h⟩ := ckI_inv h
  exact T_regJ [(zd (I ((v_26 + 1 : Nat) : Int)))] [] [1, 2, 6, 7, 8] [] [12, 13, 46, 179] _ _ (by kernel_rfl) (z1 (zc c41 (z2 zt))) (fun s hs => Exists.intro (v_26 + 1, v_27 + 1, (sput m_28 x_34)) (And.intro h hs))
  replace h := ite_f b32 h
  refine T_exit ?_
  replace h := up_inv h hy1
  refine ⟨[], by kernel_rfl, ?_⟩
  refine TL_nilQ ?_
  exact Exists.intro (v_27, m_28) (And.intro h (arr [] [12, 13, 147] [179] [12, 13, 46] (by kernel_rfl)))
  refine TL_inline 180 16 [] Try.f16 _ rfl rfl (by kernel_rfl) Try.func16 rfl rfl (by decide) ?_
  refine T_turn [] [0, 1] [] (mk 42 [(0, (ow 179)), (1, (.one (.fn 18 [.inl 10, .inl 11])))] [(10, (.var [(.dat (.sl 1 (r_7.1.map elI)))])), (11, (.var [(.dat (.sl 1 (r_7.2.1.map elI)))])), (12, (.var [(.dat (I ((v_12 : Nat) : Int)))])), (13, (.var [(.own 46)])), (46, (.map Try.prog 3 4 (mapS m_13))), (179, (.row 3 1 (l_14.map elI)))]) (by kernel_rfl) ?_
  refine T_reg [] [0, 1] [] (mk 42 [(0, (ow 179)), (1, (.one (.fn 18 [.inl 10, .inl 11])))] [(10, (.var [(.dat (.sl 1 (r_7.1.map elI)))])), (11, (.var [(.dat (.sl 1 (r_7.2.1.map elI)))])), (12, (.var [(.dat (I ((v_12 : Nat) : Int)))])), (13, (.var [(.own 46)])), (46, (.map Try.prog 3 4 (mapS m_13))), (179, (.row 3 1 (l_14.map elI)))]) _ (by kernel_rfl) (z2 zt) ?_
  refine T_seq (T_parts ?_)
  refine TL_part 2 [] (mk 42 [(0, (ow 179)), (1, (.one (.fn 18 [.inl 10, .inl 11]))), (8, (ow 179)), (9, (.one (.fn 18 [.inl 10, .inl 11])))] [(10, (.var [(.dat (.sl 1 (r_7.1.map elI)))])), (11, (.var [(.dat (.sl 1 (r_7.2.1.map elI)))])), (12, (.var [(.dat (I ((v_12 : Nat) : Int)))])), (13, (.var [(.own 46)])), (46, (.map Try.prog 3 4 (mapS m_13))), (179, (.row 3 1 (l_14.map elI)))]) _ (by kernel_rfl) (z4 zt) rfl ?_
  refine TL_consJ (α := Int) (fun (v_42 : Int) => (mk 42 [(0, (ow 179)), (1, (.one (.fn 18 [.inl 10, .inl 11]))), (10, (di v_42))] [(10, (.var [(.dat (.sl 1 (r_7.1.map elI)))])), (11, (.var [(.dat (.sl 1 (r_7.2.1.map elI)))])), (12, (.var [(.dat (I ((v_12 : Nat) : Int)))])), (13, (.var [(.own 46)])), (46, (.map Try.prog 3 4 (mapS m_13))), (179, (.row 3 1 (l_14.map elI)))])) (fun (v_42 : Int) => g_prizes_Next_j8 v_12 m_13 l_14 r_7 v_42 = some r) (fun v_42 h => ?_) ?_
  refine TL_turn [] [0, 1, 10] [] (mk 42 [(0, (ow 179)), (1, (.one (.fn 18 [.inl 10, .inl 11]))), (10, (di v_42))] [(10, (.var [(.dat (.sl 1 (r_7.1.map elI)))])), (11, (.var [(.dat (.sl 1 (r_7.2.1.map elI)))])), (12, (.var [(.dat (I ((v_12 : Nat) : Int)))])), (13, (.var [(.own 46)])), (46, (.map Try.prog 3 4 (mapS m_13))), (179, (.row 3 1 (l_14.map elI)))]) (by kernel_rfl) ?_
  refine TL_part 1 [] (mk 42 [(0, (ow 179)), (1, (.one (.fn 18 [.inl 10, .inl 11]))), (5, (di v_42)), (10, (di v_42))] [(10, (.var [(.dat (.sl 1 (r_7.1.map elI)))])), (11, (.var [(.dat (.sl 1 (r_7.2.1.map elI)))])), (12, (.var [(.dat (I ((v_12 : Nat) : Int)))])), (13, (.var [(.own 46)])), (46, (.map Try.prog 3 4 (mapS m_13))), (179, (.row 3 1 (l_14.map elI)))]) _ (by kernel_rfl) (z2 zt) rfl ?_
  refine TL_nilQ ?_
  refine T_turn [] [0, 1, 5] [] (mk 42 [(0, (ow 179)), (1, (.one (.fn 18 [.inl 10, .inl 11]))), (5, (di v_42))] [(10, (.var [(.dat (.sl 1 (r_7.1.map elI)))])), (11, (.var [(.dat (.sl 1 (r_7.2.1.map elI)))])), (12, (.var [(.dat (I ((v_12 : Nat) : Int)))])), (13, (.var [(.own 46)])), (46, (.map Try.prog 3 4 (mapS m_13))), (179, (.row 3 1 (l_14.map elI)))]) (by kernel_rfl) ?_
  refine T_seq ?_
  refine T_reg [] [0, 1, 5, 12] [] (mk 42 [(0, (ow 179)), (1, (.one (.fn 18 [.inl 10, .inl 11]))), (5, (di v_42)), (12, (db (v_42 == (-1))))] [(10, (.var [(.dat (.sl 1 (r_7.1.map elI)))])), (11, (.var [(.dat (.sl 1 (r_7.2.1.map elI)))])), (12, (.var [(.dat (I ((v_12 : Nat) : Int)))])), (13, (.var [(.own 46)])), (46, (.map Try.prog 3 4 (mapS m_13))), (179, (.row 3 1 (l_14.map elI)))]) _ (by kernel_rfl) (z4 zt) ?_
  refine T_cond (v_42 == (-1)) (by kernel_rfl) (fun b43 => ?_) (fun b43 => ?_)
  replace h := ite_t b43 h
  refine T_reg [] [4] [10, 11] (mk 42 [(4, (ow 179))] [(12, (.var [(.dat (I ((v_12 : Nat) : Int)))])), (13, (.var [(.own 46)])), (46, (.map Try.prog 3 4 (mapS m_13))), (179, (.row 3 1 (l_14.map elI)))]) _ (by kernel_rfl) (z4 zt) ?_
  refine T_ret ?_
  refine ⟨[(ow 179)], by kernel_rfl, ?_⟩
  refine TL_nilQ ?_
  exact Exists.intro (0, (l_14.map elI).length, l_14) (And.intro h (arr [.asPart 146] [12, 13, 140, 146] [] [12, 13, 46, 179] (by kernel_rfl)))
  replace h := ite_f b43 h
  refine T_skip ?_
  refine T_seqJ (α := Int × (List Int)) (fun ((i_44, l_45) : Int × (List Int)) => (mk 42 [(0, (ow 179)), (5, (di i_44))] [(12, (.var [(.dat (I ((v_12 : Nat) : Int)))])), (13, (.var [(.own 46)])), (46, (.map Try.prog 3 4 (mapS m_13))), (179, (.row 3 1 (l_45.map elI)))])) (fun ((i_44, l_45) : Int × (List Int)) => g_prizes_Next_j9 v_12 m_13 i_44 l_45 = some r) (fun v h => ?_) ?_
  obtain ⟨i_44, l_45⟩ := v
  obtain ⟨p_46, m_47, e48, h⟩ := sbo_inv elI h
  obtain ⟨c49, h⟩ := ck_inv h
  refine T_reg [zn, zn, (zd (.tup [(I ((p_46 : Nat) : Int)), (I ((m_47 : Nat) : Int))])), (zd (.sl 1 ((l_45.take p_46 ++ List.replicate m_47 (0 : Int) ++ l_45.drop (p_46 + m_47)).map elI)))] [0, 5] [] (mk 42 [(0, (ow 179)), (5, (di i_44))] [(12, (.var [(.dat (I ((v_12 : Nat) : Int)))])), (13, (.var [(.own 46)])), (46, (.map Try.prog 3 4 (mapS m_13))), (179, (.row 3 1 ((l_45.take p_46 ++ List.replicate m_47 (0 : Int) ++ l_45.drop (p_46 + m_47)).map elI)))]) _ (by kernel_rfl) (z5 (zc e48 (z1 (zc (clr_s elI l_45 (0 : Int) c49) zt)))) ?_
  obtain ⟨p_50, m_51, e52, h⟩ := sbo_inv elI h
  refine T_reg [zn, zn, (zd (.tup [(I ((p_50 : Nat) : Int)), (I ((m_51 : Nat) : Int))]))] [4] [] (mk 42 [(4, (.one (.part 179 p_50 m_51)))] [(12, (.var [(.dat (I ((v_12 : Nat) : Int)))])), (13, (.var [(.own 46)])), (46, (.map Try.prog 3 4 (mapS m_13))), (179, (.row 3 1 ((l_45.take p_46 ++ List.replicate m_47 (0 : Int) ++ l_45.drop (p_46 + m_47)).map elI)))]) _ (by kernel_rfl) (z5 (zc e52 (z2 zt))) ?_
  refine T_ret ?_
  refine ⟨[(.one (.part 179 p_50 m_51))], by kernel_rfl, ?_⟩
  refine TL_nilQ ?_
  exact Exists.intro (p_50, m_51, (l_45.take p_46 ++ List.replicate m_47 (0 : Int) ++ l_45.drop (p_46 + m_47))) (And.intro h (arr [] [12, 13, 140, 146] [] [12, 13, 46, 179] (by kernel_rfl)))
  obtain ⟨c53, h⟩ := ckI_inv h
  refine T_reg [zn, (zd (I (v_42 + 1)))] [0, 1, 5, 6] [] (mk 42 [(0, (ow 179)), (1, (.one (.fn 18 [.inl 10, .inl 11]))), (5, (di v_42)), (6, (di (v_42 + 1)))] [(10, (.var [(.dat (.sl 1 (r_7.1.map elI)))])), (11, (.var [(.dat (.sl 1 (r_7.2.1.map elI)))])), (12, (.var [(.dat (I ((v_12 : Nat) : Int)))])), (13, (.var [(.own 46)])), (46, (.map Try.prog 3 4 (mapS m_13))), (179, (.row 3 1 (l_14.map elI)))]) _ (by kernel_rfl) (z3 (zc c53 (z2 zt))) ?_
  refine T_block ?_
  refine T_arr [] [0, 1, 5, 6] [] [10, 11, 12, 13, 46, 179] _ (by kernel_rfl) (T_loopO (σ := Int × Int × (List Int)) (fun ((i_54, j_55, l_56) : Int × Int × (List Int)) => (mk 42 [(0, (ow 179)), (1, (.one (.fn 18 [.inl 10, .inl 11]))), (5, (di i_54)), (6, (di j_55))] [(10, (.var [(.dat (.sl 1 (r_7.1.map elI)))])), (11, (.var [(.dat (.sl 1 (r_7.2.1.map elI)))])), (12, (.var [(.dat (I ((v_12 : Nat) : Int)))])), (13, (.var [(.own 46)])), (46, (.map Try.prog 3 4 (mapS m_13))), (179, (.row 3 1 (l_56.map elI)))])) (g_prizes_Next_l10 r_7 v_12 m_13) (v_42, (v_42 + 1), l_14) h (fun v y1 hy1 h => ?_))
  obtain ⟨i_54, j_55, l_56⟩ := v
  refine T_seq ?_
  refine T_reg [zn, zn, (zd (I ((l_56.length : Nat) : Int)))] [0, 1, 5, 6, 19] [] (mk 42 [(0, (ow 179)), (1, (.one (.fn 18 [.inl 10, .inl 11]))), (5, (di i_54)), (6, (di j_55)), (19, (db (decide (j_55 < ((l_56.length : Nat) : Int)))))] [(10, (.var [(.dat (.sl 1 (r_7.1.map elI)))])), (11, (.var [(.dat (.sl 1 (r_7.2.1.map elI)))])), (12, (.var [(.dat (I ((v_12 : Nat) : Int)))])), (13, (.var [(.own 46)])), (46, (.map Try.prog 3 4 (mapS m_13))), (179, (.row 3 1 (l_56.map elI)))]) _ (by kernel_rfl) (z5 (zc (len_s elI l_56) (z2 zt))) ?_
  refine T_cond (decide (j_55 < ((l_56.length : Nat) : Int))) (by kernel_rfl) (fun b60 => ?_) (fun b60 => ?_)
  replace h := ite_t b60 h
  refine T_skip ?_
  refine T_seqJ (α := Int × (List Int)) (fun ((i_61, l_62) : Int × (List Int)) => (mk 42 [(0, (ow 179)), (1, (.one (.fn 18 [.inl 10, .inl 11]))), (5, (di i_61)), (6, (di j_55))] [(10, (.var [(.dat (.sl 1 (r_7.1.map elI)))])), (11, (.var [(.dat (.sl 1 (r_7.2.1.map elI)))])), (12, (.var [(.dat (I ((v_12 : Nat) : Int)))])), (13, (.var [(.own 46)])), (46, (.map Try.prog 3 4 (mapS m_13))), (179, (.row 3 1 (l_62.map elI)))])) (fun ((i_61, l_62) : Int × (List Int)) => g_prizes_Next_j11 j_55 r_7 v_12 m_13 i_61 l_62 = some y1) (fun v h => ?_) ?_
  obtain ⟨i_61, l_62⟩ := v
  obtain ⟨c63, h⟩ := ckI_inv h
  exact T_regJ [zn, (zd (I (j_55 + 1)))] [] [0, 1, 5, 6] [] [10, 11, 12, 13, 46, 179] _ _ (by kernel_rfl) (z3 (zc c63 (z2 zt))) (fun s hs => Exists.intro (i_61, (j_55 + 1), l_62) (And.intro h hs))
  refine T_block ?_
  obtain ⟨x_64, e65, e66, e67, h⟩ := gt_inv elI h
  refine T_reg [zn, zn, zn, (zd (I x_64))] [0, 1, 5, 6, 7] [] (mk 42 [(0, (ow 179)), (1, (.one (.fn 18 [.inl 10, .inl 11]))), (5, (di i_54)), (6, (di j_55)), (7, (di x_64))] [(10, (.var [(.dat (.sl 1 (r_7.1.map elI)))])), (11, (.var [(.dat (.sl 1 (r_7.2.1.map elI)))])), (12, (.var [(.dat (I ((v_12 : Nat) : Int)))])), (13, (.var [(.own 46)])), (46, (.map Try.prog 3 4 (mapS m_13))), (179, (.row 3 1 (l_56.map elI)))]) _ (by kernel_rfl) (z5 (zc e66 (z1 (zc e67 (z2 zt))))) ?_
  refine T_seq (T_parts ?_)
  refine TL_part 2 [] (mk 42 [(0, (ow 179)), (1, (.one (.fn 18 [.inl 10, .inl 11]))), (5, (di i_54)), (6, (di j_55)), (7, (di x_64)), (26, (.one (.fn 18 [.inl 10, .inl 11]))), (27, (di x_64))] [(10, (.var [(.dat (.sl 1 (r_7.1.map elI)))])), (11, (.var [(.dat (.sl 1 (r_7.2.1.map elI)))])), (12, (.var [(.dat (I ((v_12 : Nat) : Int)))])), (13, (.var [(.own 46)])), (46, (.map Try.prog 3 4 (mapS m_13))), (179, (.row 3 1 (l_56.map elI)))]) _ (by kernel_rfl) (z4 zt) rfl ?_
  refine TL_consJ (α := Bool) (fun (v_68 : Bool) => (mk 42 [(0, (ow 179)), (1, (.one (.fn 18 [.inl 10, .inl 11]))), (5, (di i_54)), (6, (di j_55)), (7, (di x_64)), (28, (db (v_68)))] [(10, (.var [(.dat (.sl 1 (r_7.1.map elI)))])), (11, (.var [(.dat (.sl 1 (r_7.2.1.map elI)))])), (12, (.var [(.dat (I ((v_12 : Nat) : Int)))])), (13, (.var [(.own 46)])), (46, (.map Try.prog 3 4 (mapS m_13))), (179, (.row 3 1 (l_56.map elI)))])) (fun (v_68 : Bool) => g_prizes_Next_j12 l_56 i_54 j_55 r_7 v_12 m_13 x_64 v_68 = some y1) (fun v_68 h => ?_) ?_
  refine TL_turn [] [0, 1, 5, 6, 7, 28] [] (mk 42 [(0, (ow 179)), (1, (.one (.fn 18 [.inl 10, .inl 11]))), (5, (di i_54)), (6, (di j_55)), (7, (di x_64)), (28, (db (v_68)))] [(10, (.var [(.dat (.sl 1 (r_7.1.map elI)))])), (11, (.var [(.dat (.sl 1 (r_7.2.1.map elI)))])), (12, (.var [(.dat (I ((v_12 : Nat) : Int)))])), (13, (.var [(.own 46)])), (46, (.map Try.prog 3 4 (mapS m_13))), (179, (.row 3 1 (l_56.map elI)))]) (by kernel_rfl) ?_
  refine TL_part 1 [] (mk 42 [(0, (ow 179)), (1, (.one (.fn 18 [.inl 10, .inl 11]))), (5, (di i_54)), (6, (di j_55)), (7, (di x_64)), (28, (db (v_68))), (29, (db (!(v_68))))] [(10, (.var [(.dat (.sl 1 (r_7.1.map elI)))])), (11, (.var [(.dat (.sl 1 (r_7.2.1.map elI)))])), (12, (.var [(.dat (I ((v_12 : Nat) : Int)))])), (13, (.var [(.own 46)])), (46, (.map Try.prog 3 4 (mapS m_13))), (179, (.row 3 1 (l_56.map elI)))]) _ (by kernel_rfl) (z2 zt) rfl ?_
  refine TL_nilQ ?_
  refine T_turn [] [0, 1, 5, 6, 7, 29] [] (mk 42 [(0, (ow 179)), (1, (.one (.fn 18 [.inl 10, .inl 11]))), (5, (di i_54)), (6, (di j_55)), (7, (di x_64)), (29, (db (!(v_68))))] [(10, (.var [(.dat (.sl 1 (r_7.1.map elI)))])), (11, (.var [(.dat (.sl 1 (r_7.2.1.map elI)))])), (12, (.var [(.dat (I ((v_12 : Nat) : Int)))])), (13, (.var [(.own 46)])), (46, (.map Try.prog 3 4 (mapS m_13))), (179, (.row 3 1 (l_56.map elI)))]) (by kernel_rfl) ?_
  refine T_cond (!(v_68)) (by kernel_rfl) (fun b69 => ?_) (fun b69 => ?_)
  replace h := ite_t b69 h
  obtain ⟨x_70, e71, e72, e73, h⟩ := gt_inv elI h
  refine T_reg (hl 5 [(4, (zd (.tup [(I x_70), (.sl 1 ((l_56.set (i_54).toNat x_64).map elI))])))]) [0, 1, 5, 6] [] (mk 42 [(0, (ow 179)), (1, (.one (.fn 18 [.inl 10, .inl 11]))), (5, (di i_54)), (6, (di j_55))] [(10, (.var [(.dat (.sl 1 (r_7.1.map elI)))])), (11, (.var [(.dat (.sl 1 (r_7.2.1.map elI)))])), (12, (.var [(.dat (I ((v_12 : Nat) : Int)))])), (13, (.var [(.own 46)])), (46, (.map Try.prog 3 4 (mapS m_13))), (179, (.row 3 1 ((l_56.set (i_54).toNat x_64).map elI)))]) _ (by kernel_rfl) (z7 (zc e72 (z1 (zc (set_inv elI x_64 e73) zt)))) ?_
  obtain ⟨c74, h⟩ := ckI_inv h
  exact T_regJ [zn, (zd (I (i_54 + 1)))] [] [0, 1, 5, 6] [] [10, 11, 12, 13, 46, 179] _ _ (by kernel_rfl) (z3 (zc c74 (z2 zt))) (fun s hs => Exists.intro ((i_54 + 1), (l_56.set (i_54).toNat x_64)) (And.intro h hs))
  replace h := ite_f b69 h
  refine T_skip ?_
  exact Exists.intro (i_54, l_56) (And.intro h (arr [] [0, 1, 5, 6] [] [10, 11, 12, 13, 46, 179] (by kernel_rfl)))
  refine TL_inline 222 18 [.inl 10, .inl 11] Try.f18 _ rfl rfl (by kernel_rfl) Try.func18 rfl rfl (by decide) ?_
  refine T_turn [] [0, 1, 2] [] (mk 13 [(0, (di x_64)), (1, (rf 10 0)), (2, (rf 11 0))] [(10, (.var [(.dat (.sl 1 (r_7.1.map elI)))])), (11, (.var [(.dat (.sl 1 (r_7.2.1.map elI)))])), (12, (.var [(.dat (I ((v_12 : Nat) : Int)))])), (13, (.var [(.own 46)])), (46, (.map Try.prog 3 4 (mapS m_13))), (179, (.row 3 1 (l_56.map elI)))]) (by kernel_rfl) ?_
  refine T_reg [] [0, 1, 2] [] (mk 13 [(0, (di x_64)), (1, (rf 10 0)), (2, (rf 11 0))] [(10, (.var [(.dat (.sl 1 (r_7.1.map elI)))])), (11, (.var [(.dat (.sl 1 (r_7.2.1.map elI)))])), (12, (.var [(.dat (I ((v_12 : Nat) : Int)))])), (13, (.var [(.own 46)])), (46, (.map Try.prog 3 4 (mapS m_13))), (179, (.row 3 1 (l_56.map elI)))]) _ (by kernel_rfl) (z2 zt) ?_
  obtain ⟨r_75, e76, h⟩ := bd_inv h
  rcases Bool.eq_false_or_eq_true (r_75) with b77 | b77
  replace h := ite_t b77 h
  refine T_reg [zn, zn, (zd (B (r_75))), zn, zg, zg, zg, (zd (B true))] [4] [] (mk 13 [(4, (db true))] [(10, (.var [(.dat (.sl 1 (r_7.1.map elI)))])), (11, (.var [(.dat (.sl 1 (r_7.2.1.map elI)))])), (12, (.var [(.dat (I ((v_12 : Nat) : Int)))])), (13, (.var [(.own 46)])), (46, (.map Try.prog 3 4 (mapS m_13))), (179, (.row 3 1 (l_56.map elI)))]) _ (by kernel_rfl) (z5 (zc (g_slices_Contains_Lint_int_ret e76) (z2 (zc (gd_tf b77) (zc (gd_tf b77) (zc (gd_tf b77) (z1 (zc b77 (z2 zt))))))))) ?_
  refine T_ret ?_
  refine ⟨[(db true)], by kernel_rfl, ?_⟩
  refine TL_nilQ ?_
  exact Exists.intro true (And.intro h (arr [] [0, 1, 5, 6, 7, 28] [] [10, 11, 12, 13, 46, 179] (by kernel_rfl)))
  replace h := ite_f b77 h
  obtain ⟨r_78, e79, h⟩ := bd_inv h
  refine T_reg [zn, zn, (zd (B (r_75))), zn, zn, zn, (zd (B (r_78))), (zd (B false))] [4] [] (mk 13 [(4, (db (r_78)))] [(10, (.var [(.dat (.sl 1 (r_7.1.map elI)))])), (11, (.var [(.dat (.sl 1 (r_7.2.1.map elI)))])), (12, (.var [(.dat (I ((v_12 : Nat) : Int)))])), (13, (.var [(.own 46)])), (46, (.map Try.prog 3 4 (mapS m_13))), (179, (.row 3 1 (l_56.map elI)))]) _ (by kernel_rfl) (z5 (zc (g_slices_Contains_Lint_int_ret e76) (z2 (zc (gd_ff b77) (z1 (zc (gd_ff b77) (z1 (zc (gd_ff b77) (zc (g_slices_Contains_Lint_int_ret e79) (z1 (zc b77 (z2 zt)))))))))))) ?_
  refine T_ret ?_
  refine ⟨[(db (r_78))], by kernel_rfl, ?_⟩
  refine TL_nilQ ?_
  exact Exists.intro (r_78) (And.intro h (arr [] [0, 1, 5, 6, 7, 28] [] [10, 11, 12, 13, 46, 179] (by kernel_rfl)))
  replace h := ite_f b60 h
  refine T_exit ?_
  replace h := up_inv h hy1
  exact Exists.intro (i_54, l_56) (And.intro h (arr [] [0, 5] [10, 11] [12, 13, 46, 179] (by kernel_rfl)))
  refine TL_inline 222 39 [] Try.f39 _ rfl rfl (by kernel_rfl) Try.func39 rfl rfl (by decide) ?_
  refine T_turn [] [0, 1] [] (mk 19 [(0, (ow 179)), (1, (.one (.fn 18 [.inl 10, .inl 11])))] [(10, (.var [(.dat (.sl 1 (r_7.1.map elI)))])), (11, (.var [(.dat (.sl 1 (r_7.2.1.map elI)))])), (12, (.var [(.dat (I ((v_12 : Nat) : Int)))])), (13, (.var [(.own 46)])), (46, (.map Try.prog 3 4 (mapS m_13))), (179, (.row 3 1 (l_14.map elI)))]) (by kernel_rfl) ?_
  refine T_reg [] [0, 1] [] (mk 19 [(0, (ow 179)), (1, (.one (.fn 18 [.inl 10, .inl 11])))] [(10, (.var [(.dat (.sl 1 (r_7.1.map elI)))])), (11, (.var [(.dat (.sl 1 (r_7.2.1.map elI)))])), (12, (.var [(.dat (I ((v_12 : Nat) : Int)))])), (13, (.var [(.own 46)])), (46, (.map Try.prog 3 4 (mapS m_13))), (179, (.row 3 1 (l_14.map elI)))]) _ (by kernel_rfl) (z2 zt) ?_
  refine T_seqJ (α := Unit) (fun (_ : Unit) => (mk 19 [] [(10, (.var [(.dat (.sl 1 (r_7.1.map elI)))])), (11, (.var [(.dat (.sl 1 (r_7.2.1.map elI)))])), (12, (.var [(.dat (I ((v_12 : Nat) : Int)))])), (13, (.var [(.own 46)])), (46, (.map Try.prog 3 4 (mapS m_13))), (179, (.row 3 1 (l_14.map elI)))])) (fun (_ : Unit) => g_prizes_Next_j13 v_12 m_13 l_14 r_7 = some r) (fun v h => ?_) ?_
  refine T_reg [] [4] [] (mk 19 [(4, (di (-1)))] [(10, (.var [(.dat (.sl 1 (r_7.1.map elI)))])), (11, (.var [(.dat (.sl 1 (r_7.2.1.map elI)))])), (12, (.var [(.dat (I ((v_12 : Nat) : Int)))])), (13, (.var [(.own 46)])), (46, (.map Try.prog 3 4 (mapS m_13))), (179, (.row 3 1 (l_14.map elI)))]) _ (by kernel_rfl) (z2 zt) ?_
  refine T_ret ?_
  refine ⟨[(di (-1))], by kernel_rfl, ?_⟩
  refine TL_nilQ ?_
  exact Exists.intro (-1) (And.intro h (arr [] [0, 1, 10] [] [10, 11, 12, 13, 46, 179] (by kernel_rfl)))
  refine T_reg [zn, (zd (I ((l_14.length : Nat) : Int)))] [0, 1, 7, 8] [] (mk 19 [(0, (ow 179)), (1, (.one (.fn 18 [.inl 10, .inl 11]))), (7, (di ((l_14.length : Nat) : Int))), (8, (di 0))] [(10, (.var [(.dat (.sl 1 (r_7.1.map elI)))])), (11, (.var [(.dat (.sl 1 (r_7.2.1.map elI)))])), (12, (.var [(.dat (I ((v_12 : Nat) : Int)))])), (13, (.var [(.own 46)])), (46, (.map Try.prog 3 4 (mapS m_13))), (179, (.row 3 1 (l_14.map elI)))]) _ (by kernel_rfl) (z3 (zc (len_s elI l_14) (z2 zt))) ?_
  refine T_block ?_
  refine T_arr [] [0, 1, 7, 8] [] [10, 11, 12, 13, 46, 179] _ (by kernel_rfl) (T_loopO (σ := Nat) (fun (v_80 : Nat) => (mk 19 [(0, (ow 179)), (1, (.one (.fn 18 [.inl 10, .inl 11]))), (7, (di ((l_14.length : Nat) : Int))), (8, (di ((v_80 : Nat) : Int)))] [(10, (.var [(.dat (.sl 1 (r_7.1.map elI)))])), (11, (.var [(.dat (.sl 1 (r_7.2.1.map elI)))])), (12, (.var [(.dat (I ((v_12 : Nat) : Int)))])), (13, (.var [(.own 46)])), (46, (.map Try.prog 3 4 (mapS m_13))), (179, (.row 3 1 (l_14.map elI)))])) (g_prizes_Next_l14 l_14 r_7 v_12 m_13) 0 h (fun v_80 y1 hy1 h => ?_))
  refine T_reg [] [0, 1, 7, 8, 9] [] (mk 19 [(0, (ow 179)), (1, (.one (.fn 18 [.inl 10, .inl 11]))), (7, (di ((l_14.length : Nat) : Int))), (8, (di ((v_80 : Nat) : Int))), (9, (db (decide (((v_80 : Nat) : Int) < ((l_14.length : Nat) : Int)))))] [(10, (.var [(.dat (.sl 1 (r_7.1.map elI)))])), (11, (.var [(.dat (.sl 1 (r_7.2.1.map elI)))])), (12, (.var [(.dat (I ((v_12 : Nat) : Int)))])), (13, (.var [(.own 46)])), (46, (.map Try.prog 3 4 (mapS m_13))), (179, (.row 3 1 (l_14.map elI)))]) _ (by kernel_rfl) (z2 zt) ?_
  refine T_seq ?_
  refine T_cond (decide (((v_80 : Nat) : Int) < ((l_14.length : Nat) : Int))) (by kernel_rfl) (fun b82 => ?_) (fun b82 => ?_)
  replace h := ite_t b82 h
  refine T_skip ?_
  refine T_seq ?_
  refine T_block ?_
  refine T_reg [] [0, 1, 5, 7, 8] [] (mk 19 [(0, (ow 179)), (1, (.one (.fn 18 [.inl 10, .inl 11]))), (5, (di ((v_80 : Nat) : Int))), (7, (di ((l_14.length : Nat) : Int))), (8, (di ((v_80 : Nat) : Int)))] [(10, (.var [(.dat (.sl 1 (r_7.1.map elI)))])), (11, (.var [(.dat (.sl 1 (r_7.2.1.map elI)))])), (12, (.var [(.dat (I ((v_12 : Nat) : Int)))])), (13, (.var [(.own 46)])), (46, (.map Try.prog 3 4 (mapS m_13))), (179, (.row 3 1 (l_14.map elI)))]) _ (by kernel_rfl) (z4 zt) ?_
  obtain ⟨x_83, e84, e85, e86, h⟩ := gn_inv elI h
  refine T_seq (T_parts ?_)
  refine TL_part 5 (hl 5 [(4, (zd (I x_83)))]) (mk 19 [(0, (ow 179)), (1, (.one (.fn 18 [.inl 10, .inl 11]))), (5, (di ((v_80 : Nat) : Int))), (7, (di ((l_14.length : Nat) : Int))), (8, (di ((v_80 : Nat) : Int))), (11, (.one (.fn 18 [.inl 10, .inl 11]))), (12, (ow 179)), (13, (di ((v_80 : Nat) : Int))), (14, (.one (.rref 179 v_80 0))), (15, (di x_83))] [(10, (.var [(.dat (.sl 1 (r_7.1.map elI)))])), (11, (.var [(.dat (.sl 1 (r_7.2.1.map elI)))])), (12, (.var [(.dat (I ((v_12 : Nat) : Int)))])), (13, (.var [(.own 46)])), (46, (.map Try.prog 3 4 (mapS m_13))), (179, (.row 3 1 (l_14.map elI)))]) _ (by kernel_rfl) (z7 (zc e85 (z1 (zc e86 zt)))) rfl ?_
  refine TL_consJ (α := Bool) (fun (v_87 : Bool) => (mk 19 [(0, (ow 179)), (1, (.one (.fn 18 [.inl 10, .inl 11]))), (5, (di ((v_80 : Nat) : Int))), (7, (di ((l_14.length : Nat) : Int))), (8, (di ((v_80 : Nat) : Int))), (16, (db (v_87)))] [(10, (.var [(.dat (.sl 1 (r_7.1.map elI)))])), (11, (.var [(.dat (.sl 1 (r_7.2.1.map elI)))])), (12, (.var [(.dat (I ((v_12 : Nat) : Int)))])), (13, (.var [(.own 46)])), (46, (.map Try.prog 3 4 (mapS m_13))), (179, (.row 3 1 (l_14.map elI)))])) (fun (v_87 : Bool) => g_prizes_Next_j15 v_12 m_13 l_14 r_7 v_80 v_87 = some y1) (fun v_87 h => ?_) ?_
  refine TL_turn [] [0, 1, 5, 7, 8, 16] [] (mk 19 [(0, (ow 179)), (1, (.one (.fn 18 [.inl 10, .inl 11]))), (5, (di ((v_80 : Nat) : Int))), (7, (di ((l_14.length : Nat) : Int))), (8, (di ((v_80 : Nat) : Int))), (16, (db (v_87)))] [(10, (.var [(.dat (.sl 1 (r_7.1.map elI)))])), (11, (.var [(.dat (.sl 1 (r_7.2.1.map elI)))])), (12, (.var [(.dat (I ((v_12 : Nat) : Int)))])), (13, (.var [(.own 46)])), (46, (.map Try.prog 3 4 (mapS m_13))), (179, (.row 3 1 (l_14.map elI)))]) (by kernel_rfl) ?_
  refine TL_nilQ ?_
  refine T_turn [] [0, 1, 5, 7, 8, 16] [] (mk 19 [(0, (ow 179)), (1, (.one (.fn 18 [.inl 10, .inl 11]))), (5, (di ((v_80 : Nat) : Int))), (7, (di ((l_14.length : Nat) : Int))), (8, (di ((v_80 : Nat) : Int))), (16, (db (v_87)))] [(10, (.var [(.dat (.sl 1 (r_7.1.map elI)))])), (11, (.var [(.dat (.sl 1 (r_7.2.1.map elI)))])), (12, (.var [(.dat (I ((v_12 : Nat) : Int)))])), (13, (.var [(.own 46)])), (46, (.map Try.prog 3 4 (mapS m_13))), (179, (.row 3 1 (l_14.map elI)))]) (by kernel_rfl) ?_
  refine T_cond (v_87) (by kernel_rfl) (fun b88 => ?_) (fun b88 => ?_)
  replace h := ite_t b88 h
  refine T_reg [] [4] [] (mk 19 [(4, (di ((v_80 : Nat) : Int)))] [(10, (.var [(.dat (.sl 1 (r_7.1.map elI)))])), (11, (.var [(.dat (.sl 1 (r_7.2.1.map elI)))])), (12, (.var [(.dat (I ((v_12 : Nat) : Int)))])), (13, (.var [(.own 46)])), (46, (.map Try.prog 3 4 (mapS m_13))), (179, (.row 3 1 (l_14.map elI)))]) _ (by kernel_rfl) (z4 zt) ?_
  refine T_ret ?_
  replace h := up_inv h hy1
  refine ⟨[(di ((v_80 : Nat) : Int))], by kernel_rfl, ?_⟩
  refine TL_nilQ ?_
  exact Exists.intro ((v_80 : Nat) : Int) (And.intro h (arr [] [0, 1, 10] [] [10, 11, 12, 13, 46, 179] (by kernel_rfl)))
  replace h := ite_f b88 h
  refine T_skip ?_
  obtain ⟨c89, h⟩ := ckI_inv h
  exact T_regJ [(zd (I ((v_80 + 1 : Nat) : Int)))] [] [0, 1, 7, 8] [] [10, 11, 12, 13, 46, 179] _ _ (by kernel_rfl) (z1 (zc c89 (z2 zt))) (fun s hs => Exists.intro (v_80 + 1) (And.intro h hs))
  refine TL_inline 241 18 [.inl 10, .inl 11] Try.f18 _ rfl rfl (by kernel_rfl) Try.func18 rfl rfl (by decide) ?_
  refine T_turn [] [0, 1, 2] [] (mk 13 [(0, (di x_83)), (1, (rf 10 0)), (2, (rf 11 0))] [(10, (.var [(.dat (.sl 1 (r_7.1.map elI)))])), (11, (.var [(.dat (.sl 1 (r_7.2.1.map elI)))])), (12, (.var [(.dat (I ((v_12 : Nat) : Int)))])), (13, (.var [(.own 46)])), (46, (.map Try.prog 3 4 (mapS m_13))), (179, (.row 3 1 (l_14.map elI)))]) (by kernel_rfl) ?_
  refine T_reg [] [0, 1, 2] [] (mk 13 [(0, (di x_83)), (1, (rf 10 0)), (2, (rf 11 0))] [(10, (.var [(.dat (.sl 1 (r_7.1.map elI)))])), (11, (.var [(.dat (.sl 1 (r_7.2.1.map elI)))])), (12, (.var [(.dat (I ((v_12 : Nat) : Int)))])), (13, (.var [(.own 46)])), (46, (.map Try.prog 3 4 (mapS m_13))), (179, (.row 3 1 (l_14.map elI)))]) _ (by kernel_rfl) (z2 zt) ?_
  obtain ⟨r_90, e91, h⟩ := bd_inv h
  rcases Bool.eq_false_or_eq_true (r_90) with b92 | b92
  replace h := ite_t b92 h
  refine T_reg [zn, zn, (zd (B (r_90))), zn, zg, zg, zg, (zd (B true))] [4] [] (mk 13 [(4, (db true))] [(10, (.var [(.dat (.sl 1 (r_7.1.map elI)))])), (11, (.var [(.dat (.sl 1 (r_7.2.1.map elI)))])), (12, (.var [(.dat (I ((v_12 : Nat) : Int)))])), (13, (.var [(.own 46)])), (46, (.map Try.prog 3 4 (mapS m_13))), (179, (.row 3 1 (l_14.map elI)))]) _ (by kernel_rfl) (z5 (zc (g_slices_Contains_Lint_int_ret e91) (z2 (zc (gd_tf b92) (zc (gd_tf b92) (zc (gd_tf b92) (z1 (zc b92 (z2 zt))))))))) ?_
  refine T_ret ?_
  refine ⟨[(db true)], by kernel_rfl, ?_⟩
  refine TL_nilQ ?_
  exact Exists.intro true (And.intro h (arr [] [0, 1, 5, 7, 8, 16] [] [10, 11, 12, 13, 46, 179] (by kernel_rfl)))
  replace h := ite_f b92 h
  obtain ⟨r_93, e94, h⟩ := bd_inv h
  refine T_reg [zn, zn, (zd (B (r_90))), zn, zn, zn, (zd (B (r_93))), (zd (B false))] [4] [] (mk 13 [(4, (db (r_93)))] [(10, (.var [(.dat (.sl 1 (r_7.1.map elI)))])), (11, (.var [(.dat (.sl 1 (r_7.2.1.map elI)))])), (12, (.var [(.dat (I ((v_12 : Nat) : Int)))])), (13, (.var [(.own 46)])), (46, (.map Try.prog 3 4 (mapS m_13))), (179, (.row 3 1 (l_14.map elI)))]) _ (by kernel_rfl) (z5 (zc (g_slices_Contains_Lint_int_ret e91) (z2 (zc (gd_ff b92) (z1 (zc (gd_ff b92) (z1 (zc (gd_ff b92) (zc (g_slices_Contains_Lint_int_ret e94) (z1 (zc b92 (z2 zt)))))))))))) ?_
  refine T_ret ?_
  refine ⟨[(db (r_93))], by kernel_rfl, ?_⟩
  refine TL_nilQ ?_
  exact Exists.intro (r_93) (And.intro h (arr [] [0, 1, 5, 7, 8, 16] [] [10, 11, 12, 13, 46, 179] (by kernel_rfl)))
  replace h := ite_f b82 h
  refine T_exit ?_
  replace h := up_inv h hy1
  exact Exists.intro () (And.intro h (arr [] [] [] [10, 11, 12, 13, 46, 179] (by kernel_rfl)))
  refine TL_inline 163 17 [] Try.f17 _ rfl rfl (by kernel_rfl) Try.func17 rfl rfl (by decide) ?_
  refine T_turn [] [0] [] (mk 21 [(0, (dt (.sl 14 (r_4.1.table.l.map encPlace))))] [(8, (.var (qLeague r_4.1))), (10, (.var [(.dat (.sl 1 (r_7.1.map elI)))])), (11, (.var [(.dat (.sl 1 (r_7.2.1.map elI)))])), (12, (.var [(.dat (I ((v_12 : Nat) : Int)))])), (13, (.var [(.own 46)])), (46, (.map Try.prog 3 4 (mapS m_13)))]) (by kernel_rfl) ?_
  refine T_reg [] [0, 2] [8] (mk 21 [(0, (dt (.sl 14 (r_4.1.table.l.map encPlace)))), (2, (dt nilS))] [(10, (.var [(.dat (.sl 1 (r_7.1.map elI)))])), (11, (.var [(.dat (.sl 1 (r_7.2.1.map elI)))])), (12, (.var [(.dat (I ((v_12 : Nat) : Int)))])), (13, (.var [(.own 46)])), (46, (.map Try.prog 3 4 (mapS m_13)))]) _ (by kernel_rfl) (z2 zt) ?_
  refine T_seqJ (α := List Int) (fun (l_95 : List Int) => (mk 21 [(2, (ow 179))] [(10, (.var [(.dat (.sl 1 (r_7.1.map elI)))])), (11, (.var [(.dat (.sl 1 (r_7.2.1.map elI)))])), (12, (.var [(.dat (I ((v_12 : Nat) : Int)))])), (13, (.var [(.own 46)])), (46, (.map Try.prog 3 4 (mapS m_13))), (179, (.row 3 1 (l_95.map elI)))])) (fun (l_95 : List Int) => g_prizes_Next_j16 r_7 v_12 m_13 l_95 = some r) (fun l_95 h => ?_) ?_
  refine T_seq (T_parts ?_)
  refine TL_part 1 [] (mk 21 [(2, (ow 179)), (18, (ow 179))] [(10, (.var [(.dat (.sl 1 (r_7.1.map elI)))])), (11, (.var [(.dat (.sl 1 (r_7.2.1.map elI)))])), (12, (.var [(.dat (I ((v_12 : Nat) : Int)))])), (13, (.var [(.own 46)])), (46, (.map Try.prog 3 4 (mapS m_13))), (179, (.row 3 1 (l_95.map elI)))]) _ (by kernel_rfl) (z2 zt) rfl ?_
  obtain ⟨c96, h⟩ := ck_inv h
  refine TL_sortI 40 3 sort_okI rfl rfl (by kernel_rfl) 179 (by kernel_rfl) l_95 (by kernel_rfl) c96 ?_
  refine TL_turn [] [2, 19] [] (mk 21 [(2, (ow 179)), (19, (dt (.tup [])))] [(10, (.var [(.dat (.sl 1 (r_7.1.map elI)))])), (11, (.var [(.dat (.sl 1 (r_7.2.1.map elI)))])), (12, (.var [(.dat (I ((v_12 : Nat) : Int)))])), (13, (.var [(.own 46)])), (46, (.map Try.prog 3 4 (mapS m_13))), (179, (.row 3 1 ((srtI l_95).map elI)))]) (by kernel_rfl) ?_
  refine TL_nilQ ?_
  refine T_turn [] [2] [] (mk 21 [(2, (ow 179))] [(10, (.var [(.dat (.sl 1 (r_7.1.map elI)))])), (11, (.var [(.dat (.sl 1 (r_7.2.1.map elI)))])), (12, (.var [(.dat (I ((v_12 : Nat) : Int)))])), (13, (.var [(.own 46)])), (46, (.map Try.prog 3 4 (mapS m_13))), (179, (.row 3 1 ((srtI l_95).map elI)))]) (by kernel_rfl) ?_
  refine T_reg [] [2] [] (mk 21 [(2, (ow 179))] [(10, (.var [(.dat (.sl 1 (r_7.1.map elI)))])), (11, (.var [(.dat (.sl 1 (r_7.2.1.map elI)))])), (12, (.var [(.dat (I ((v_12 : Nat) : Int)))])), (13, (.var [(.own 46)])), (46, (.map Try.prog 3 4 (mapS m_13))), (179, (.row 3 1 ((srtI l_95).map elI)))]) _ (by kernel_rfl) (z4 zt) ?_
  refine T_ret ?_
  refine ⟨[(ow 179)], by kernel_rfl, ?_⟩
  refine TL_nilQ ?_
  exact Exists.intro (srtI l_95) (And.intro h (arr [] [10, 11, 12, 13, 140, 144] [] [10, 11, 12, 13, 46, 179] (by kernel_rfl)))
  refine T_reg [zn, (zd (I ((r_4.1.table.l.length : Nat) : Int)))] [2, 5, 6, 7] [] (mk 21 [(2, (dt nilS)), (5, (dt (.sl 14 (r_4.1.table.l.map encPlace)))), (6, (di ((r_4.1.table.l.length : Nat) : Int))), (7, (di 0))] [(10, (.var [(.dat (.sl 1 (r_7.1.map elI)))])), (11, (.var [(.dat (.sl 1 (r_7.2.1.map elI)))])), (12, (.var [(.dat (I ((v_12 : Nat) : Int)))])), (13, (.var [(.own 46)])), (46, (.map Try.prog 3 4 (mapS m_13)))]) _ (by kernel_rfl) (z3 (zc (len_s encPlace r_4.1.table.l) (z2 zt))) ?_
  refine T_block ?_
  refine T_arr [.ownS 2 179 3 1] [2, 5, 6, 7] [] [10, 11, 12, 13, 46, 179] _ (by kernel_rfl) (T_loopO (σ := Nat × (List Int)) (fun ((v_97, l_98) : Nat × (List Int)) => (mk 21 [(2, (ow 179)), (5, (dt (.sl 14 (r_4.1.table.l.map encPlace)))), (6, (di ((r_4.1.table.l.length : Nat) : Int))), (7, (di ((v_97 : Nat) : Int)))] [(10, (.var [(.dat (.sl 1 (r_7.1.map elI)))])), (11, (.var [(.dat (.sl 1 (r_7.2.1.map elI)))])), (12, (.var [(.dat (I ((v_12 : Nat) : Int)))])), (13, (.var [(.own 46)])), (46, (.map Try.prog 3 4 (mapS m_13))), (179, (.row 3 1 (l_98.map elI)))])) (g_prizes_Next_l17 r_4 r_7 v_12 m_13) (0, ([] : List Int)) h (fun v y1 hy1 h => ?_))
  obtain ⟨v_97, l_98⟩ := v
  refine T_reg [] [2, 5, 6, 7, 8] [] (mk 21 [(2, (ow 179)), (5, (dt (.sl 14 (r_4.1.table.l.map encPlace)))), (6, (di ((r_4.1.table.l.length : Nat) : Int))), (7, (di ((v_97 : Nat) : Int))), (8, (db (decide (((v_97 : Nat) : Int) < ((r_4.1.table.l.length : Nat) : Int)))))] [(10, (.var [(.dat (.sl 1 (r_7.1.map elI)))])), (11, (.var [(.dat (.sl 1 (r_7.2.1.map elI)))])), (12, (.var [(.dat (I ((v_12 : Nat) : Int)))])), (13, (.var [(.own 46)])), (46, (.map Try.prog 3 4 (mapS m_13))), (179, (.row 3 1 (l_98.map elI)))]) _ (by kernel_rfl) (z2 zt) ?_
  refine T_seq ?_
  refine T_cond (decide (((v_97 : Nat) : Int) < ((r_4.1.table.l.length : Nat) : Int))) (by kernel_rfl) (fun b101 => ?_) (fun b101 => ?_)
  replace h := ite_t b101 h
  refine T_skip ?_
  refine T_seq ?_
  refine T_block ?_
  obtain ⟨x_102, e103, e104, e105, h⟩ := gn_inv encPlace h
  refine T_reg [(zd (encPlace x_102))] [2, 4, 5, 6, 7] [] (mk 21 [(2, (ow 179)), (4, (rf 167 0)), (5, (dt (.sl 14 (r_4.1.table.l.map encPlace)))), (6, (di ((r_4.1.table.l.length : Nat) : Int))), (7, (di ((v_97 : Nat) : Int)))] [(167, (.var (qPlace x_102))), (10, (.var [(.dat (.sl 1 (r_7.1.map elI)))])), (11, (.var [(.dat (.sl 1 (r_7.2.1.map elI)))])), (12, (.var [(.dat (I ((v_12 : Nat) : Int)))])), (13, (.var [(.own 46)])), (46, (.map Try.prog 3 4 (mapS m_13))), (179, (.row 3 1 (l_98.map elI)))]) _ (by kernel_rfl) (z1 (zc e103 (z6 zt))) ?_
  obtain ⟨c106, h⟩ := ck_inv h
  refine T_regE (hl 6 [(5, (zd (.sl 1 ((l_98 ++ [x_102.r.c]).map elI))))]) (mk 21 [(2, (ow 179)), (4, (rf 167 0)), (5, (dt (.sl 14 (r_4.1.table.l.map encPlace)))), (6, (di ((r_4.1.table.l.length : Nat) : Int))), (7, (di ((v_97 : Nat) : Int))), (12, (rf 167 3)), (13, (rf 167 3)), (14, (di x_102.r.c)), (15, (ow 178)), (16, (ow 179))] [(179, (.row 3 1 ((l_98 ++ [x_102.r.c]).map elI))), (178, (.row 3 1 ([x_102.r.c].map elI))), (167, (.var (qPlace x_102))), (10, (.var [(.dat (.sl 1 (r_7.1.map elI)))])), (11, (.var [(.dat (.sl 1 (r_7.2.1.map elI)))])), (12, (.var [(.dat (I ((v_12 : Nat) : Int)))])), (13, (.var [(.own 46)])), (46, (.map Try.prog 3 4 (mapS m_13)))]) _ (by kernel_rfl) (z8 (z1 (zc (show dfill (fun i => some (i * 1, 1)) (List.replicate (1 * 1) .junk) [(0, [(.dat (I x_102.r.c))])] = some ((flat ([x_102.r.c].map elI)).map .dat) from rfl) (z1 (zc (app_s elI elI_one l_98 ([x_102.r.c]) c106) (z2 zt)))))) ?_
  obtain ⟨c107, h⟩ := ckI_inv h
  exact T_regJ [(zd (I ((v_97 + 1 : Nat) : Int)))] [] [2, 5, 6, 7] [178, 167] [10, 11, 12, 13, 46, 179] _ _ (by kernel_rfl) (z1 (zc c107 (z2 zt))) (fun s hs => Exists.intro (v_97 + 1, (l_98 ++ [x_102.r.c])) (And.intro h hs))
  replace h := ite_f b101 h
  refine T_exit ?_
  replace h := up_inv h hy1
  exact Exists.intro l_98 (And.intro h (arr [] [2] [] [10, 11, 12, 13, 46, 179] (by kernel_rfl)))
  refine T_reg [] [0, 1, 2, 8, 10, 11, 12, 13, 14, 97] [] (mk 163 [(0, (dt (.sl 3 (tables_1.map encTab)))), (1, (dt (.sl 6 (schemes_2.map encSch)))), (2, (di comp_3)), (8, (rf 8 0)), (10, (rf 10 0)), (11, (rf 11 0)), (12, (rf 12 0)), (13, (rf 13 0)), (14, (.one (.fn 15 [.inl 13, .inl 12]))), (97, (db (r_4.1.scheme.be != (-1))))] [(8, (.var (qLeague r_4.1))), (10, (.var [(.dat (.sl 1 (r_7.1.map elI)))])), (11, (.var [(.dat (.sl 1 (r_7.2.1.map elI)))])), (12, (.var [(.dat (I ((v_10 : Nat) : Int)))])), (13, (.var [(.own 46)])), (46, (.map Try.prog 3 4 (mapS m_11)))]) _ (by kernel_rfl) (z8 zt) ?_
  refine T_cond (r_4.1.scheme.be != (-1)) (by kernel_rfl) (fun b108 => ?_) (fun b108 => ?_)
  replace h := ite_t b108 h
  obtain ⟨r_109, e110, h⟩ := bd_inv h
  refine T_reg (hl 6 [(5, (zd (.tup [(encLeague r_109.1), (B (r_109.2))])))]) [2, 8, 10, 11, 12, 13, 14, 20, 21] [] (mk 163 [(2, (di comp_3)), (8, (rf 8 0)), (10, (rf 10 0)), (11, (rf 11 0)), (12, (rf 12 0)), (13, (rf 13 0)), (14, (.one (.fn 15 [.inl 13, .inl 12]))), (20, (rf 20 0)), (21, (db (r_109.2)))] [(20, (.var (qLeague r_109.1))), (8, (.var (qLeague r_4.1))), (10, (.var [(.dat (.sl 1 (r_7.1.map elI)))])), (11, (.var [(.dat (.sl 1 (r_7.2.1.map elI)))])), (12, (.var [(.dat (I ((v_10 : Nat) : Int)))])), (13, (.var [(.own 46)])), (46, (.map Try.prog 3 4 (mapS m_11)))]) _ (by kernel_rfl) (z8 (z3 (zc (g_prizes_of_ret e110) (z8 (z4 zt))))) ?_
  refine T_seq ?_
  refine T_seqJ (α := Bool) (fun (v_111 : Bool) => (mk 163 [(8, (rf 8 0)), (10, (rf 10 0)), (11, (rf 11 0)), (12, (rf 12 0)), (13, (rf 13 0)), (14, (.one (.fn 15 [.inl 13, .inl 12]))), (20, (rf 20 0)), (124, (db (v_111)))] [(8, (.var (qLeague r_4.1))), (10, (.var [(.dat (.sl 1 (r_7.1.map elI)))])), (11, (.var [(.dat (.sl 1 (r_7.2.1.map elI)))])), (12, (.var [(.dat (I ((v_10 : Nat) : Int)))])), (13, (.var [(.own 46)])), (20, (.var (qLeague r_109.1))), (46, (.map Try.prog 3 4 (mapS m_11)))])) (fun (v_111 : Bool) => g_prizes_Next_j18 r_109 r_4 r_7 v_10 m_11 v_111 = some r) (fun v_111 h => ?_) ?_
  refine T_cond (v_111) (by kernel_rfl) (fun b112 => ?_) (fun b112 => ?_)
  replace h := ite_t b112 h
  refine T_reg [] [6, 7] [8, 10, 11, 12, 13, 20, 46] (mk 163 [(6, (dt nilS)), (7, (di 420))] []) _ (by kernel_rfl) (z4 zt) ?_
  refine T_ret ?_
  obtain rfl := some_inv h
  exact ret_here [(dt nilS), (di 420)] (by kernel_rfl) ⟨(.inr ⟨rfl, 1, rfl⟩), (.inl rfl), trivial⟩
  replace h := ite_f b112 h
  refine T_skip ?_
  obtain ⟨r_113, e114, h⟩ := bd_inv h
  refine T_reg (hl 5 [(4, (zd (.tup [(.sl 1 (r_113.1.map elI)), (.sl 1 (r_113.2.1.map elI)), (I r_113.2.2)])))]) [8, 10, 11, 12, 13, 14, 22, 24] [20] (mk 163 [(8, (rf 8 0)), (10, (rf 10 0)), (11, (rf 11 0)), (12, (rf 12 0)), (13, (rf 13 0)), (14, (.one (.fn 15 [.inl 13, .inl 12]))), (22, (dt (.sl 1 (r_113.1.map elI)))), (24, (di r_113.2.2))] [(8, (.var (qLeague r_4.1))), (10, (.var [(.dat (.sl 1 (r_7.1.map elI)))])), (11, (.var [(.dat (.sl 1 (r_7.2.1.map elI)))])), (12, (.var [(.dat (I ((v_10 : Nat) : Int)))])), (13, (.var [(.own 46)])), (46, (.map Try.prog 3 4 (mapS m_11)))]) _ (by kernel_rfl) (z8 (z1 (zc (g_prizes_Moves_ret e114) (z8 (z6 zt))))) ?_
  refine T_seq ?_
  refine T_reg [] [8, 10, 11, 12, 13, 14, 22, 24, 135] [] (mk 163 [(8, (rf 8 0)), (10, (rf 10 0)), (11, (rf 11 0)), (12, (rf 12 0)), (13, (rf 13 0)), (14, (.one (.fn 15 [.inl 13, .inl 12]))), (22, (dt (.sl 1 (r_113.1.map elI)))), (24, (di r_113.2.2)), (135, (db (r_113.2.2 != 0)))] [(8, (.var (qLeague r_4.1))), (10, (.var [(.dat (.sl 1 (r_7.1.map elI)))])), (11, (.var [(.dat (.sl 1 (r_7.2.1.map elI)))])), (12, (.var [(.dat (I ((v_10 : Nat) : Int)))])), (13, (.var [(.own 46)])), (46, (.map Try.prog 3 4 (mapS m_11)))]) _ (by kernel_rfl) (z4 zt) ?_
  refine T_cond (r_113.2.2 != 0) (by kernel_rfl) (fun b115 => ?_) (fun b115 => ?_)
  replace h := ite_t b115 h
  refine T_reg [] [6, 7] [8, 10, 11, 12, 13, 46] (mk 163 [(6, (dt nilS)), (7, (di r_113.2.2))] []) _ (by kernel_rfl) (z6 zt) ?_
  refine T_ret ?_
  obtain rfl := some_inv h
  exact ret_here [(dt nilS), (di r_113.2.2)] (by kernel_rfl) ⟨(.inr ⟨rfl, 1, rfl⟩), (.inl rfl), trivial⟩
  replace h := ite_f b115 h
  refine T_skip ?_
  refine T_parts ?_
  refine TL_part 2 [] (mk 163 [(8, (rf 8 0)), (10, (rf 10 0)), (11, (rf 11 0)), (12, (rf 12 0)), (13, (rf 13 0)), (14, (.one (.fn 15 [.inl 13, .inl 12]))), (22, (dt (.sl 1 (r_113.1.map elI)))), (24, (di r_113.2.2)), (135, (db (r_113.2.2 != 0))), (137, (.one (.fn 15 [.inl 13, .inl 12]))), (138, (dt (.sl 1 (r_113.1.map elI))))] [(8, (.var (qLeague r_4.1))), (10, (.var [(.dat (.sl 1 (r_7.1.map elI)))])), (11, (.var [(.dat (.sl 1 (r_7.2.1.map elI)))])), (12, (.var [(.dat (I ((v_10 : Nat) : Int)))])), (13, (.var [(.own 46)])), (46, (.map Try.prog 3 4 (mapS m_11)))]) _ (by kernel_rfl) (z4 zt) rfl ?_
  refine TL_consJ (α := Nat × (List Int)) (fun ((v_116, m_117) : Nat × (List Int)) => (mk 163 [(8, (rf 8 0)), (10, (rf 10 0)), (11, (rf 11 0)), (12, (rf 12 0)), (13, (rf 13 0)), (14, (.one (.fn 15 [.inl 13, .inl 12]))), (139, (.tup []))] [(8, (.var (qLeague r_4.1))), (10, (.var [(.dat (.sl 1 (r_7.1.map elI)))])), (11, (.var [(.dat (.sl 1 (r_7.2.1.map elI)))])), (12, (.var [(.dat (I ((v_116 : Nat) : Int)))])), (13, (.var [(.own 46)])), (46, (.map Try.prog 3 4 (mapS m_117)))])) (fun ((v_116, m_117) : Nat × (List Int)) => g_prizes_Next_j19 r_4 r_7 v_116 m_117 = some r) (fun v h => ?_) ?_
  obtain ⟨v_116, m_117⟩ := v
  refine TL_turn [] [8, 10, 11, 12, 13, 14, 139] [] (mk 163 [(8, (rf 8 0)), (10, (rf 10 0)), (11, (rf 11 0)), (12, (rf 12 0)), (13, (rf 13 0)), (14, (.one (.fn 15 [.inl 13, .inl 12]))), (139, (.tup []))] [(8, (.var (qLeague r_4.1))), (10, (.var [(.dat (.sl 1 (r_7.1.map elI)))])), (11, (.var [(.dat (.sl 1 (r_7.2.1.map elI)))])), (12, (.var [(.dat (I ((v_116 : Nat) : Int)))])), (13, (.var [(.own 46)])), (46, (.map Try.prog 3 4 (mapS m_117)))]) (by kernel_rfl) ?_
  refine TL_nilQ ?_
  exact Exists.intro (v_116, m_117) (And.intro h (arr [] [8, 10, 11, 12, 13, 14] [] [8, 10, 11, 12, 13, 46] (by kernel_rfl)))
  refine TL_inline 163 15 [.inl 13, .inl 12] Try.f15 _ rfl rfl (by kernel_rfl) Try.func15 rfl rfl (by decide) ?_
  refine T_turn [] [0, 1, 2] [] (mk 17 [(0, (dt (.sl 1 (r_113.1.map elI)))), (1, (rf 13 0)), (2, (rf 12 0))] [(8, (.var (qLeague r_4.1))), (10, (.var [(.dat (.sl 1 (r_7.1.map elI)))])), (11, (.var [(.dat (.sl 1 (r_7.2.1.map elI)))])), (12, (.var [(.dat (I ((v_10 : Nat) : Int)))])), (13, (.var [(.own 46)])), (46, (.map Try.prog 3 4 (mapS m_11)))]) (by kernel_rfl) ?_
  refine T_reg [zn, (zd (I ((r_113.1.length : Nat) : Int)))] [1, 2, 6, 7, 8] [] (mk 17 [(1, (rf 13 0)), (2, (rf 12 0)), (6, (dt (.sl 1 (r_113.1.map elI)))), (7, (di ((r_113.1.length : Nat) : Int))), (8, (di 0))] [(8, (.var (qLeague r_4.1))), (10, (.var [(.dat (.sl 1 (r_7.1.map elI)))])), (11, (.var [(.dat (.sl 1 (r_7.2.1.map elI)))])), (12, (.var [(.dat (I ((v_10 : Nat) : Int)))])), (13, (.var [(.own 46)])), (46, (.map Try.prog 3 4 (mapS m_11)))]) _ (by kernel_rfl) (z3 (zc (len_s elI r_113.1) (z2 zt))) ?_
  refine T_block ?_
  refine T_arr [] [1, 2, 6, 7, 8] [] [8, 10, 11, 12, 13, 46] _ (by kernel_rfl) (T_loopO (σ := Nat × Nat × (List Int)) (fun ((v_118, v_119, m_120) : Nat × Nat × (List Int)) => (mk 17 [(1, (rf 13 0)), (2, (rf 12 0)), (6, (dt (.sl 1 (r_113.1.map elI)))), (7, (di ((r_113.1.length : Nat) : Int))), (8, (di ((v_118 : Nat) : Int)))] [(8, (.var (qLeague r_4.1))), (10, (.var [(.dat (.sl 1 (r_7.1.map elI)))])), (11, (.var [(.dat (.sl 1 (r_7.2.1.map elI)))])), (12, (.var [(.dat (I ((v_119 : Nat) : Int)))])), (13, (.var [(.own 46)])), (46, (.map Try.prog 3 4 (mapS m_120)))])) (g_prizes_Next_l20 r_113 r_4 r_7) (0, v_10, m_11) h (fun v y1 hy1 h => ?_))
  obtain ⟨v_118, v_119, m_120⟩ := v
  refine T_reg [] [1, 2, 6, 7, 8, 9] [] (mk 17 [(1, (rf 13 0)), (2, (rf 12 0)), (6, (dt (.sl 1 (r_113.1.map elI)))), (7, (di ((r_113.1.length : Nat) : Int))), (8, (di ((v_118 : Nat) : Int))), (9, (db (decide (((v_118 : Nat) : Int) < ((r_113.1.length : Nat) : Int)))))] [(8, (.var (qLeague r_4.1))), (10, (.var [(.dat (.sl 1 (r_7.1.map elI)))])), (11, (.var [(.dat (.sl 1 (r_7.2.1.map elI)))])), (12, (.var [(.dat (I ((v_119 : Nat) : Int)))])), (13, (.var [(.own 46)])), (46, (.map Try.prog 3 4 (mapS m_120)))]) _ (by kernel_rfl) (z2 zt) ?_
  refine T_seq ?_
  refine T_cond (decide (((v_118 : Nat) : Int) < ((r_113.1.length : Nat) : Int))) (by kernel_rfl) (fun b124 => ?_) (fun b124 => ?_)
  replace h := ite_t b124 h
  refine T_skip ?_
  refine T_seq ?_
  refine T_block ?_
  obtain ⟨x_125, e126, e127, e128, h⟩ := gn_inv elI h
  refine T_reg [(zd (I x_125))] [1, 2, 5, 6, 7, 8] [] (mk 17 [(1, (rf 13 0)), (2, (rf 12 0)), (5, (di x_125)), (6, (dt (.sl 1 (r_113.1.map elI)))), (7, (di ((r_113.1.length : Nat) : Int))), (8, (di ((v_118 : Nat) : Int)))] [(8, (.var (qLeague r_4.1))), (10, (.var [(.dat (.sl 1 (r_7.1.map elI)))])), (11, (.var [(.dat (.sl 1 (r_7.2.1.map elI)))])), (12, (.var [(.dat (I ((v_119 : Nat) : Int)))])), (13, (.var [(.own 46)])), (46, (.map Try.prog 3 4 (mapS m_120)))]) _ (by kernel_rfl) (z1 (zc e126 (z4 zt))) ?_
  refine T_seq (T_parts ?_)
  refine TL_part 2 [] (mk 17 [(1, (rf 13 0)), (2, (rf 12 0)), (5, (di x_125)), (6, (dt (.sl 1 (r_113.1.map elI)))), (7, (di ((r_113.1.length : Nat) : Int))), (8, (di ((v_118 : Nat) : Int))), (12, (ow 46)), (13, (di x_125))] [(8, (.var (qLeague r_4.1))), (10, (.var [(.dat (.sl 1 (r_7.1.map elI)))])), (11, (.var [(.dat (.sl 1 (r_7.2.1.map elI)))])), (12, (.var [(.dat (I ((v_119 : Nat) : Int)))])), (13, (.var [(.own 46)])), (46, (.map Try.prog 3 4 (mapS m_120)))]) _ (by kernel_rfl) (z4 zt) rfl ?_
  obtain ⟨c129, h⟩ := ckI_in h
  obtain ⟨c130, h⟩ := ck_inv h
  refine TL_setPut 27 3 4 46 _ _ _ m_120 x_125 rfl rfl (by kernel_rfl) (by kernel_rfl) (by kernel_rfl) (by kernel_rfl) (by kernel_rfl) (by kernel_rfl) (by kernel_rfl) c129 c130 ?_
  refine TL_turn [] [1, 2, 6, 7, 8] [] (mk 17 [(1, (rf 13 0)), (2, (rf 12 0)), (6, (dt (.sl 1 (r_113.1.map elI)))), (7, (di ((r_113.1.length : Nat) : Int))), (8, (di ((v_118 : Nat) : Int)))] [(8, (.var (qLeague r_4.1))), (10, (.var [(.dat (.sl 1 (r_7.1.map elI)))])), (11, (.var [(.dat (.sl 1 (r_7.2.1.map elI)))])), (12, (.var [(.dat (I ((v_119 : Nat) : Int)))])), (13, (.var [(.own 46)])), (46, (.map Try.prog 3 4 (mapS (sput m_120 x_125))))]) (by kernel_rfl) ?_
  refine TL_nilQ ?_
  refine T_turn [] [1, 2, 6, 7, 8] [] (mk 17 [(1, (rf 13 0)), (2, (rf 12 0)), (6, (dt (.sl 1 (r_113.1.map elI)))), (7, (di ((r_113.1.length : Nat) : Int))), (8, (di ((v_118 : Nat) : Int)))] [(8, (.var (qLeague r_4.1))), (10, (.var [(.dat (.sl 1 (r_7.1.map elI)))])), (11, (.var [(.dat (.sl 1 (r_7.2.1.map elI)))])), (12, (.var [(.dat (I ((v_119 : Nat) : Int)))])), (13, (.var [(.own 46)])), (46, (.map Try.prog 3 4 (mapS (sput m_120 x_125))))]) (by kernel_rfl) ?_
  obtain ⟨c131, h⟩ := ckI_inv h
  refine T_regE [zn, (zd (I ((v_119 + 1 : Nat) : Int)))] (mk 17 [(1, (rf 13 0)), (2, (rf 12 0)), (6, (dt (.sl 1 (r_113.1.map elI)))), (7, (di ((r_113.1.length : Nat) : Int))), (8, (di ((v_118 : Nat) : Int))), (14, (di ((v_119 : Nat) : Int))), (15, (di ((v_119 + 1 : Nat) : Int)))] [(8, (.var (qLeague r_4.1))), (10, (.var [(.dat (.sl 1 (r_7.1.map elI)))])), (11, (.var [(.dat (.sl 1 (r_7.2.1.map elI)))])), (12, (.var [(.dat (I ((v_119 + 1 : Nat) : Int)))])), (13, (.var [(.own 46)])), (46, (.map Try.prog 3 4 (mapS (sput m_120 x_125))))]) _ (by kernel_rfl) (z3 (zc c131 (z2 zt))) ?_
  obtain ⟨c132, h⟩ := ckI_inv h
  exact T_regJ [(zd (I ((v_118 + 1 : Nat) : Int)))] [] [1, 2, 6, 7, 8] [] [8, 10, 11, 12, 13, 46] _ _ (by kernel_rfl) (z1 (zc c132 (z2 zt))) (fun s hs => Exists.intro (v_118 + 1, v_119 + 1, (sput m_120 x_125)) (And.intro h hs))
  replace h := ite_f b124 h
  refine T_exit ?_
  replace h := up_inv h hy1
  refine ⟨[], by kernel_rfl, ?_⟩
  refine TL_nilQ ?_
  exact Exists.intro (v_119, m_120) (And.intro h (arr [] [8, 10, 11, 12, 13, 14, 139] [] [8, 10, 11, 12, 13, 46] (by kernel_rfl)))
  rcases Bool.eq_false_or_eq_true (!(r_109.2)) with b133 | b133
  replace h := ite_t b133 h
  exact T_regJ [zn, zn, zn, zg, zg, zg, zg, zg, zg, zg, (zd (B true)), zn, zg, zg, zg, zg, zg, (zd (B true))] [] [8, 10, 11, 12, 13, 14, 20, 124] [] [8, 10, 11, 12, 13, 20, 46] _ _ (by kernel_rfl) (z6 (zc (gd_tf b133) (zc (gd_tf b133) (zc (gd_tf b133) (zc (gd_tf b133) (zc (gd_tf b133) (zc (gd_tf b133) (zc (gd_tf b133) (z1 (zc b133 (z2 (zc (gd_tf (rfl : true = true)) (zc (gd_tf (rfl : true = true)) (zc (gd_tf (rfl : true = true)) (zc (gd_tf (rfl : true = true)) (zc (gd_tf (rfl : true = true)) (z1 (zc (rfl : true = true) zt)))))))))))))))))) (fun s hs => Exists.intro true (And.intro h hs))
  replace h := ite_f b133 h
  rcases Bool.eq_false_or_eq_true (r_109.1.table.s != r_4.1.table.s) with b134 | b134
  replace h := ite_t b134 h
  exact T_regJ [zn, zn, zn, zn, zn, zn, zn, zn, zn, zn, (zd (B false)), zn, zg, zg, zg, zg, zg, (zd (B true))] [] [8, 10, 11, 12, 13, 14, 20, 124] [] [8, 10, 11, 12, 13, 20, 46] _ _ (by kernel_rfl) (z6 (zc (gd_ff b133) (z1 (zc (gd_ff b133) (z1 (zc (gd_ff b133) (z1 (zc (gd_ff b133) (z1 (zc (gd_ff b133) (z1 (zc (gd_ff b133) (z1 (zc (gd_ff b133) (z2 (zc b133 (z2 (zc (gd_tf b134) (zc (gd_tf b134) (zc (gd_tf b134) (zc (gd_tf b134) (zc (gd_tf b134) (z1 (zc b134 zt)))))))))))))))))))))))) (fun s hs => Exists.intro true (And.intro h hs))
  replace h := ite_f b134 h
  exact T_regJ (hl 18 [(10, (zd (B false))), (17, (zd (B false)))]) [] [8, 10, 11, 12, 13, 14, 20, 124] [] [8, 10, 11, 12, 13, 20, 46] _ _ (by kernel_rfl) (z6 (zc (gd_ff b133) (z1 (zc (gd_ff b133) (z1 (zc (gd_ff b133) (z1 (zc (gd_ff b133) (z1 (zc (gd_ff b133) (z1 (zc (gd_ff b133) (z1 (zc (gd_ff b133) (z2 (zc b133 (z2 (zc (gd_ff b134) (z1 (zc (gd_ff b134) (z1 (zc (gd_ff b134) (z1 (zc (gd_ff b134) (z1 (zc (gd_ff b134) (z2 (zc b134 zt)))))))))))))))))))))))))))) (fun s hs => Exists.intro (r_109.1.scheme.ab != comp_3) (And.intro h hs))
  replace h := ite_f b108 h
  refine T_skip ?_
  exact Exists.intro (v_10, m_11) (And.intro h (arr [] [8, 10, 11, 12, 13, 14] [] [8, 10, 11, 12, 13, 46] (by kernel_rfl)))
  refine T_reg [] [0, 1, 2, 8, 10, 11, 12, 13, 14, 51] [] (mk 163 [(0, (dt (.sl 3 (tables_1.map encTab)))), (1, (dt (.sl 6 (schemes_2.map encSch)))), (2, (di comp_3)), (8, (rf 8 0)), (10, (rf 10 0)), (11, (rf 11 0)), (12, (rf 12 0)), (13, (rf 13 0)), (14, (.one (.fn 15 [.inl 13, .inl 12]))), (51, (db (r_4.1.scheme.ab != (-1))))] [(13, (.var [(.own 46)])), (46, (.map Try.prog 3 4 (mapS ([] : List Int)))), (12, (.var [(.dat (I 0))])), (11, (.var [(.dat (.sl 1 (r_7.2.1.map elI)))])), (10, (.var [(.dat (.sl 1 (r_7.1.map elI)))])), (8, (.var (qLeague r_4.1)))]) _ (by kernel_rfl) (z8 zt) ?_
  refine T_cond (r_4.1.scheme.ab != (-1)) (by kernel_rfl) (fun b135 => ?_) (fun b135 => ?_)
  replace h := ite_t b135 h
  obtain ⟨r_136, e137, h⟩ := bd_inv h
  refine T_reg (hl 6 [(5, (zd (.tup [(encLeague r_136.1), (B (r_136.2))])))]) [0, 1, 2, 8, 10, 11, 12, 13, 14, 15, 16] [] (mk 163 [(0, (dt (.sl 3 (tables_1.map encTab)))), (1, (dt (.sl 6 (schemes_2.map encSch)))), (2, (di comp_3)), (8, (rf 8 0)), (10, (rf 10 0)), (11, (rf 11 0)), (12, (rf 12 0)), (13, (rf 13 0)), (14, (.one (.fn 15 [.inl 13, .inl 12]))), (15, (rf 15 0)), (16, (db (r_136.2)))] [(15, (.var (qLeague r_136.1))), (13, (.var [(.own 46)])), (46, (.map Try.prog 3 4 (mapS ([] : List Int)))), (12, (.var [(.dat (I 0))])), (11, (.var [(.dat (.sl 1 (r_7.2.1.map elI)))])), (10, (.var [(.dat (.sl 1 (r_7.1.map elI)))])), (8, (.var (qLeague r_4.1)))]) _ (by kernel_rfl) (z8 (z3 (zc (g_prizes_of_ret e137) (z8 (z4 zt))))) ?_
  refine T_seq ?_
  refine T_seqJ (α := Bool) (fun (v_138 : Bool) => (mk 163 [(0, (dt (.sl 3 (tables_1.map encTab)))), (1, (dt (.sl 6 (schemes_2.map encSch)))), (2, (di comp_3)), (8, (rf 8 0)), (10, (rf 10 0)), (11, (rf 11 0)), (12, (rf 12 0)), (13, (rf 13 0)), (14, (.one (.fn 15 [.inl 13, .inl 12]))), (15, (rf 15 0)), (78, (db (v_138)))] [(8, (.var (qLeague r_4.1))), (10, (.var [(.dat (.sl 1 (r_7.1.map elI)))])), (11, (.var [(.dat (.sl 1 (r_7.2.1.map elI)))])), (12, (.var [(.dat (I 0))])), (13, (.var [(.own 46)])), (15, (.var (qLeague r_136.1))), (46, (.map Try.prog 3 4 (mapS ([] : List Int))))])) (fun (v_138 : Bool) => g_prizes_Next_j21 r_136 r_4 tables_1 schemes_2 r_7 comp_3 v_138 = some r) (fun v_138 h => ?_) ?_
  refine T_cond (v_138) (by kernel_rfl) (fun b139 => ?_) (fun b139 => ?_)
  replace h := ite_t b139 h
  refine T_reg [] [6, 7] [8, 10, 11, 12, 13, 15, 46] (mk 163 [(6, (dt nilS)), (7, (di 420))] []) _ (by kernel_rfl) (z4 zt) ?_
  refine T_ret ?_
  obtain rfl := some_inv h
  exact ret_here [(dt nilS), (di 420)] (by kernel_rfl) ⟨(.inr ⟨rfl, 1, rfl⟩), (.inl rfl), trivial⟩
  replace h := ite_f b139 h
  refine T_skip ?_
  obtain ⟨r_140, e141, h⟩ := bd_inv h
  refine T_reg (hl 5 [(4, (zd (.tup [(.sl 1 (r_140.1.map elI)), (.sl 1 (r_140.2.1.map elI)), (I r_140.2.2)])))]) [0, 1, 2, 8, 10, 11, 12, 13, 14, 18, 19] [15] (mk 163 [(0, (dt (.sl 3 (tables_1.map encTab)))), (1, (dt (.sl 6 (schemes_2.map encSch)))), (2, (di comp_3)), (8, (rf 8 0)), (10, (rf 10 0)), (11, (rf 11 0)), (12, (rf 12 0)), (13, (rf 13 0)), (14, (.one (.fn 15 [.inl 13, .inl 12]))), (18, (dt (.sl 1 (r_140.2.1.map elI)))), (19, (di r_140.2.2))] [(8, (.var (qLeague r_4.1))), (10, (.var [(.dat (.sl 1 (r_7.1.map elI)))])), (11, (.var [(.dat (.sl 1 (r_7.2.1.map elI)))])), (12, (.var [(.dat (I 0))])), (13, (.var [(.own 46)])), (46, (.map Try.prog 3 4 (mapS ([] : List Int))))]) _ (by kernel_rfl) (z8 (z1 (zc (g_prizes_Moves_ret e141) (z8 (z6 zt))))) ?_
  refine T_seq ?_
  refine T_reg [] [0, 1, 2, 8, 10, 11, 12, 13, 14, 18, 19, 89] [] (mk 163 [(0, (dt (.sl 3 (tables_1.map encTab)))), (1, (dt (.sl 6 (schemes_2.map encSch)))), (2, (di comp_3)), (8, (rf 8 0)), (10, (rf 10 0)), (11, (rf 11 0)), (12, (rf 12 0)), (13, (rf 13 0)), (14, (.one (.fn 15 [.inl 13, .inl 12]))), (18, (dt (.sl 1 (r_140.2.1.map elI)))), (19, (di r_140.2.2)), (89, (db (r_140.2.2 != 0)))] [(8, (.var (qLeague r_4.1))), (10, (.var [(.dat (.sl 1 (r_7.1.map elI)))])), (11, (.var [(.dat (.sl 1 (r_7.2.1.map elI)))])), (12, (.var [(.dat (I 0))])), (13, (.var [(.own 46)])), (46, (.map Try.prog 3 4 (mapS ([] : List Int))))]) _ (by kernel_rfl) (z4 zt) ?_
  refine T_cond (r_140.2.2 != 0) (by kernel_rfl) (fun b142 => ?_) (fun b142 => ?_)
  replace h := ite_t b142 h
  refine T_reg [] [6, 7] [8, 10, 11, 12, 13, 46] (mk 163 [(6, (dt nilS)), (7, (di r_140.2.2))] []) _ (by kernel_rfl) (z6 zt) ?_
  refine T_ret ?_
  obtain rfl := some_inv h
  exact ret_here [(dt nilS), (di r_140.2.2)] (by kernel_rfl) ⟨(.inr ⟨rfl, 1, rfl⟩), (.inl rfl), trivial⟩
  replace h := ite_f b142 h
  refine T_skip ?_
  refine T_parts ?_
  refine TL_part 2 [] (mk 163 [(0, (dt (.sl 3 (tables_1.map encTab)))), (1, (dt (.sl 6 (schemes_2.map encSch)))), (2, (di comp_3)), (8, (rf 8 0)), (10, (rf 10 0)), (11, (rf 11 0)), (12, (rf 12 0)), (13, (rf 13 0)), (14, (.one (.fn 15 [.inl 13, .inl 12]))), (18, (dt (.sl 1 (r_140.2.1.map elI)))), (19, (di r_140.2.2)), (89, (db (r_140.2.2 != 0))), (91, (.one (.fn 15 [.inl 13, .inl 12]))), (92, (dt (.sl 1 (r_140.2.1.map elI))))] [(8, (.var (qLeague r_4.1))), (10, (.var [(.dat (.sl 1 (r_7.1.map elI)))])), (11, (.var [(.dat (.sl 1 (r_7.2.1.map elI)))])), (12, (.var [(.dat (I 0))])), (13, (.var [(.own 46)])), (46, (.map Try.prog 3 4 (mapS ([] : List Int))))]) _ (by kernel_rfl) (z4 zt) rfl ?_
  refine TL_consJ (α := Nat × (List Int)) (fun ((v_143, m_144) : Nat × (List Int)) => (mk 163 [(0, (dt (.sl 3 (tables_1.map encTab)))), (1, (dt (.sl 6 (schemes_2.map encSch)))), (2, (di comp_3)), (8, (rf 8 0)), (10, (rf 10 0)), (11, (rf 11 0)), (12, (rf 12 0)), (13, (rf 13 0)), (14, (.one (.fn 15 [.inl 13, .inl 12]))), (93, (.tup []))] [(8, (.var (qLeague r_4.1))), (10, (.var [(.dat (.sl 1 (r_7.1.map elI)))])), (11, (.var [(.dat (.sl 1 (r_7.2.1.map elI)))])), (12, (.var [(.dat (I ((v_143 : Nat) : Int)))])), (13, (.var [(.own 46)])), (46, (.map Try.prog 3 4 (mapS m_144)))])) (fun ((v_143, m_144) : Nat × (List Int)) => g_prizes_Next_j22 r_4 tables_1 schemes_2 r_7 comp_3 v_143 m_144 = some r) (fun v h => ?_) ?_
  obtain ⟨v_143, m_144⟩ := v
  refine TL_turn [] [0, 1, 2, 8, 10, 11, 12, 13, 14, 93] [] (mk 163 [(0, (dt (.sl 3 (tables_1.map encTab)))), (1, (dt (.sl 6 (schemes_2.map encSch)))), (2, (di comp_3)), (8, (rf 8 0)), (10, (rf 10 0)), (11, (rf 11 0)), (12, (rf 12 0)), (13, (rf 13 0)), (14, (.one (.fn 15 [.inl 13, .inl 12]))), (93, (.tup []))] [(8, (.var (qLeague r_4.1))), (10, (.var [(.dat (.sl 1 (r_7.1.map elI)))])), (11, (.var [(.dat (.sl 1 (r_7.2.1.map elI)))])), (12, (.var [(.dat (I ((v_143 : Nat) : Int)))])), (13, (.var [(.own 46)])), (46, (.map Try.prog 3 4 (mapS m_144)))]) (by kernel_rfl) ?_
  refine TL_nilQ ?_
  exact Exists.intro (v_143, m_144) (And.intro h (arr [] [0, 1, 2, 8, 10, 11, 12, 13, 14] [] [8, 10, 11, 12, 13, 46] (by kernel_rfl)))
  refine TL_inline 163 15 [.inl 13, .inl 12] Try.f15 _ rfl rfl (by kernel_rfl) Try.func15 rfl rfl (by decide) ?_
  refine T_turn [] [0, 1, 2] [] (mk 17 [(0, (dt (.sl 1 (r_140.2.1.map elI)))), (1, (rf 13 0)), (2, (rf 12 0))] [(8, (.var (qLeague r_4.1))), (10, (.var [(.dat (.sl 1 (r_7.1.map elI)))])), (11, (.var [(.dat (.sl 1 (r_7.2.1.map elI)))])), (12, (.var [(.dat (I 0))])), (13, (.var [(.own 46)])), (46, (.map Try.prog 3 4 (mapS ([] : List Int))))]) (by kernel_rfl) ?_
  refine T_reg [zn, (zd (I ((r_140.2.1.length : Nat) : Int)))] [1, 2, 6, 7, 8] [] (mk 17 [(1, (rf 13 0)), (2, (rf 12 0)), (6, (dt (.sl 1 (r_140.2.1.map elI)))), (7, (di ((r_140.2.1.length : Nat) : Int))), (8, (di 0))] [(8, (.var (qLeague r_4.1))), (10, (.var [(.dat (.sl 1 (r_7.1.map elI)))])), (11, (.var [(.dat (.sl 1 (r_7.2.1.map elI)))])), (12, (.var [(.dat (I 0))])), (13, (.var [(.own 46)])), (46, (.map Try.prog 3 4 (mapS ([] : List Int))))]) _ (by kernel_rfl) (z3 (zc (len_s elI r_140.2.1) (z2 zt))) ?_
  refine T_block ?_
  refine T_arr [] [1, 2, 6, 7, 8] [] [8, 10, 11, 12, 13, 46] _ (by kernel_rfl) (T_loopO (σ := Nat × Nat × (List Int)) (fun ((v_145, v_146, m_147) : Nat × Nat × (List Int)) => (mk 17 [(1, (rf 13 0)), (2, (rf 12 0)), (6, (dt (.sl 1 (r_140.2.1.map elI)))), (7, (di ((r_140.2.1.length : Nat) : Int))), (8, (di ((v_145 : Nat) : Int)))] [(8, (.var (qLeague r_4.1))), (10, (.var [(.dat (.sl 1 (r_7.1.map elI)))])), (11, (.var [(.dat (.sl 1 (r_7.2.1.map elI)))])), (12, (.var [(.dat (I ((v_146 : Nat) : Int)))])), (13, (.var [(.own 46)])), (46, (.map Try.prog 3 4 (mapS m_147)))])) (g_prizes_Next_l23 r_140 r_4 tables_1 schemes_2 r_7 comp_3) (0, 0, ([] : List Int)) h (fun v y1 hy1 h => ?_))
  obtain ⟨v_145, v_146, m_147⟩ := v
  refine T_reg [] [1, 2, 6, 7, 8, 9] [] (mk 17 [(1, (rf 13 0)), (2, (rf 12 0)), (6, (dt (.sl 1 (r_140.2.1.map elI)))), (7, (di ((r_140.2.1.length : Nat) : Int))), (8, (di ((v_145 : Nat) : Int))), (9, (db (decide (((v_145 : Nat) : Int) < ((r_140.2.1.length : Nat) : Int)))))] [(8, (.var (qLeague r_4.1))), (10, (.var [(.dat (.sl 1 (r_7.1.map elI)))])), (11, (.var [(.dat (.sl 1 (r_7.2.1.map elI)))])), (12, (.var [(.dat (I ((v_146 : Nat) : Int)))])), (13, (.var [(.own 46)])), (46, (.map Try.prog 3 4 (mapS m_147)))]) _ (by kernel_rfl) (z2 zt) ?_
  refine T_seq ?_
  refine T_cond (decide (((v_145 : Nat) : Int) < ((r_140.2.1.length : Nat) : Int))) (by kernel_rfl) (fun b151 => ?_) (fun b151 => ?_)
  replace h := ite_t b151 h
  refine T_skip ?_
  refine T_seq ?_
  refine T_block ?_
  obtain ⟨x_152, e153, e154, e155, h⟩ := gn_inv elI h
  refine T_reg [(zd (I x_152))] [1, 2, 5, 6, 7, 8] [] (mk 17 [(1, (rf 13 0)), (2, (rf 12 0)), (5, (di x_152)), (6, (dt (.sl 1 (r_140.2.1.map elI)))), (7, (di ((r_140.2.1.length : Nat) : Int))), (8, (di ((v_145 : Nat) : Int)))] [(8, (.var (qLeague r_4.1))), (10, (.var [(.dat (.sl 1 (r_7.1.map elI)))])), (11, (.var [(.dat (.sl 1 (r_7.2.1.map elI)))])), (12, (.var [(.dat (I ((v_146 : Nat) : Int)))])), (13, (.var [(.own 46)])), (46, (.map Try.prog 3 4 (mapS m_147)))]) _ (by kernel_rfl) (z1 (zc e153 (z4 zt))) ?_
  refine T_seq (T_parts ?_)
  refine TL_part 2 [] (mk 17 [(1, (rf 13 0)), (2, (rf 12 0)), (5, (di x_152)), (6, (dt (.sl 1 (r_140.2.1.map elI)))), (7, (di ((r_140.2.1.length : Nat) : Int))), (8, (di ((v_145 : Nat) : Int))), (12, (ow 46)), (13, (di x_152))] [(8, (.var (qLeague r_4.1))), (10, (.var [(.dat (.sl 1 (r_7.1.map elI)))])), (11, (.var [(.dat (.sl 1 (r_7.2.1.map elI)))])), (12, (.var [(.dat (I ((v_146 : Nat) : Int)))])), (13, (.var [(.own 46)])), (46, (.map Try.prog 3 4 (mapS m_147)))]) _ (by kernel_rfl) (z4 zt) rfl ?_
  obtain ⟨c156, h⟩ := ckI_in h
  obtain ⟨c157, h⟩ := ck_inv h
  refine TL_setPut 27 3 4 46 _ _ _ m_147 x_152 rfl rfl (by kernel_rfl) (by kernel_rfl) (by kernel_rfl) (by kernel_rfl) (by kernel_rfl) (by kernel_rfl) (by kernel_rfl) c156 c157 ?_
  refine TL_turn [] [1, 2, 6, 7, 8] [] (mk 17 [(1, (rf 13 0)), (2, (rf 12 0)), (6, (dt (.sl 1 (r_140.2.1.map elI)))), (7, (di ((r_140.2.1.length : Nat) : Int))), (8, (di ((v_145 : Nat) : Int)))] [(8, (.var (qLeague r_4.1))), (10, (.var [(.dat (.sl 1 (r_7.1.map elI)))])), (11, (.var [(.dat (.sl 1 (r_7.2.1.map elI)))])), (12, (.var [(.dat (I ((v_146 : Nat) : Int)))])), (13, (.var [(.own 46)])), (46, (.map Try.prog 3 4 (mapS (sput m_147 x_152))))]) (by kernel_rfl) ?_
  refine TL_nilQ ?_
  refine T_turn [] [1, 2, 6, 7, 8] [] (mk 17 [(1, (rf 13 0)), (2, (rf 12 0)), (6, (dt (.sl 1 (r_140.2.1.map elI)))), (7, (di ((r_140.2.1.length : Nat) : Int))), (8, (di ((v_145 : Nat) : Int)))] [(8, (.var (qLeague r_4.1))), (10, (.var [(.dat (.sl 1 (r_7.1.map elI)))])), (11, (.var [(.dat (.sl 1 (r_7.2.1.map elI)))])), (12, (.var [(.dat (I ((v_146 : Nat) : Int)))])), (13, (.var [(.own 46)])), (46, (.map Try.prog 3 4 (mapS (sput m_147 x_152))))]) (by kernel_rfl) ?_
  obtain ⟨c158, h⟩ := ckI_inv h
  refine T_regE [zn, (zd (I ((v_146 + 1 : Nat) : Int)))] (mk 17 [(1, (rf 13 0)), (2, (rf 12 0)), (6, (dt (.sl 1 (r_140.2.1.map elI)))), (7, (di ((r_140.2.1.length : Nat) : Int))), (8, (di ((v_145 : Nat) : Int))), (14, (di ((v_146 : Nat) : Int))), (15, (di ((v_146 + 1 : Nat) : Int)))] [(8, (.var (qLeague r_4.1))), (10, (.var [(.dat (.sl 1 (r_7.1.map elI)))])), (11, (.var [(.dat (.sl 1 (r_7.2.1.map elI)))])), (12, (.var [(.dat (I ((v_146 + 1 : Nat) : Int)))])), (13, (.var [(.own 46)])), (46, (.map Try.prog 3 4 (mapS (sput m_147 x_152))))]) _ (by kernel_rfl) (z3 (zc c158 (z2 zt))) ?_
  obtain ⟨c159, h⟩ := ckI_inv h
  exact T_regJ [(zd (I ((v_145 + 1 : Nat) : Int)))] [] [1, 2, 6, 7, 8] [] [8, 10, 11, 12, 13, 46] _ _ (by kernel_rfl) (z1 (zc c159 (z2 zt))) (fun s hs => Exists.intro (v_145 + 1, v_146 + 1, (sput m_147 x_152)) (And.intro h hs))
  replace h := ite_f b151 h
  refine T_exit ?_
  replace h := up_inv h hy1
  refine ⟨[], by kernel_rfl, ?_⟩
  refine TL_nilQ ?_
  exact Exists.intro (v_146, m_147) (And.intro h (arr [] [0, 1, 2, 8, 10, 11, 12, 13, 14, 93] [] [8, 10, 11, 12, 13, 46] (by kernel_rfl)))
  rcases Bool.eq_false_or_eq_true (!(r_136.2)) with b160 | b160
  replace h := ite_t b160 h
  exact T_regJ [zn, zn, zn, zg, zg, zg, zg, zg, zg, zg, (zd (B true)), zn, zg, zg, zg, zg, zg, (zd (B true))] [] [0, 1, 2, 8, 10, 11, 12, 13, 14, 15, 78] [] [8, 10, 11, 12, 13, 15, 46] _ _ (by kernel_rfl) (z6 (zc (gd_tf b160) (zc (gd_tf b160) (zc (gd_tf b160) (zc (gd_tf b160) (zc (gd_tf b160) (zc (gd_tf b160) (zc (gd_tf b160) (z1 (zc b160 (z2 (zc (gd_tf (rfl : true = true)) (zc (gd_tf (rfl : true = true)) (zc (gd_tf (rfl : true = true)) (zc (gd_tf (rfl : true = true)) (zc (gd_tf (rfl : true = true)) (z1 (zc (rfl : true = true) zt)))))))))))))))))) (fun s hs => Exists.intro true (And.intro h hs))
  replace h := ite_f b160 h
  rcases Bool.eq_false_or_eq_true (r_136.1.table.s != r_4.1.table.s) with b161 | b161
  replace h := ite_t b161 h
  exact T_regJ [zn, zn, zn, zn, zn, zn, zn, zn, zn, zn, (zd (B false)), zn, zg, zg, zg, zg, zg, (zd (B true))] [] [0, 1, 2, 8, 10, 11, 12, 13, 14, 15, 78] [] [8, 10, 11, 12, 13, 15, 46] _ _ (by kernel_rfl) (z6 (zc (gd_ff b160) (z1 (zc (gd_ff b160) (z1 (zc (gd_ff b160) (z1 (zc (gd_ff b160) (z1 (zc (gd_ff b160) (z1 (zc (gd_ff b160) (z1 (zc (gd_ff b160) (z2 (zc b160 (z2 (zc (gd_tf b161) (zc (gd_tf b161) (zc (gd_tf b161) (zc (gd_tf b161) (zc (gd_tf b161) (z1 (zc b161 zt)))))))))))))))))))))))) (fun s hs => Exists.intro true (And.intro h hs))
  replace h := ite_f b161 h
  exact T_regJ (hl 18 [(10, (zd (B false))), (17, (zd (B false)))]) [] [0, 1, 2, 8, 10, 11, 12, 13, 14, 15, 78] [] [8, 10, 11, 12, 13, 15, 46] _ _ (by kernel_rfl) (z6 (zc (gd_ff b160) (z1 (zc (gd_ff b160) (z1 (zc (gd_ff b160) (z1 (zc (gd_ff b160) (z1 (zc (gd_ff b160) (z1 (zc (gd_ff b160) (z1 (zc (gd_ff b160) (z2 (zc b160 (z2 (zc (gd_ff b161) (z1 (zc (gd_ff b161) (z1 (zc (gd_ff b161) (z1 (zc (gd_ff b161) (z1 (zc (gd_ff b161) (z2 (zc b161 zt)))))))))))))))))))))))))))) (fun s hs => Exists.intro (r_136.1.scheme.be != comp_3) (And.intro h hs))
  replace h := ite_f b135 h
  refine T_skip ?_
  exact Exists.intro (0, ([] : List Int)) (And.intro h (arr [] [0, 1, 2, 8, 10, 11, 12, 13, 14] [] [8, 10, 11, 12, 13, 46] (by kernel_rfl)))

end Go.Proofs.Ytoiiblkncbnlaaa

/-
  Go functions as partial functions, printed by auto.py: what each returns when its partial function has a value. Conditions: those of each theorem.
-/
namespace Go.Proofs.Ytoiiblkncbnlaaa
open Go.DL
set_option maxRecDepth 100000
set_option maxHeartbeats 4000000
set_option linter.unusedVariables false
set_option linter.unusedSimpArgs false
theorem g_prizes_parts_ret {s_1 : Sch} {r : List Int} (h : g_prizes_parts s_1 = some r) : Ret Try.prog 24 [(encSch s_1)] (.sl 1 (r.map elI)) := by
  refine Ret.of_T Try.func24 (by kernel_rfl) rfl ?_
  refine T_turn [] [0] [] (mk 42 [(0, (.agg (qSch s_1)))] []) (by kernel_rfl) ?_
  refine T_reg [] [1] [] (mk 42 [(1, (rf 1 0))] [(1, (.var (qSch s_1)))]) _ (by kernel_rfl) (z4 zt) ?_
  refine T_seq (T_parts ?_)
  obtain ⟨c2, h⟩ := ck_inv h
  refine TL_part 1 [] (mk 42 [(1, (rf 1 0)), (8, (ow 8))] [(8, (.row 3 1 (List.replicate 25 (I 0)))), (1, (.var (qSch s_1)))]) _ (by kernel_rfl) (z1 (zc c2 zt)) rfl ?_
  refine TL_turn [] [1, 8] [] (mk 42 [(1, (rf 1 0)), (8, (ow 8))] [(8, (.row 3 1 ((List.replicate 25 (0 : Int)).map elI))), (1, (.var (qSch s_1)))]) (by rw [show (List.replicate 25 (0 : Int)).map elI = (List.replicate 25 (I 0)) from List.map_replicate]; kernel_rfl) ?_
  refine TL_part 1 [] (mk 42 [(1, (rf 1 0)), (3, (ow 8)), (8, (ow 8))] [(8, (.row 3 1 ((List.replicate 25 (0 : Int)).map elI))), (1, (.var (qSch s_1)))]) _ (by kernel_rfl) (z2 zt) rfl ?_
  refine TL_nilQ ?_
  refine T_turn [] [1, 3] [] (mk 42 [(1, (rf 1 0)), (3, (ow 8))] [(8, (.row 3 1 ((List.replicate 25 (0 : Int)).map elI))), (1, (.var (qSch s_1)))]) (by kernel_rfl) ?_
  refine T_seqJ (α := List Int) (fun (l_3 : List Int) => (mk 42 [(3, (ow 8))] [(8, (.row 3 1 (l_3.map elI)))])) (fun (l_3 : List Int) => g_prizes_parts_j1 l_3 = some r) (fun l_3 h => ?_) ?_
  refine T_seq (T_parts ?_)
  refine TL_part 1 [] (mk 42 [(3, (ow 8)), (40, (ow 8))] [(8, (.row 3 1 (l_3.map elI)))]) _ (by kernel_rfl) (z2 zt) rfl ?_
  refine TL_turn [8] [3, 40] [] (mk 42 [(3, (dt (.sl 1 (l_3.map elI)))), (40, (dt (.sl 1 (l_3.map elI))))] []) (by kernel_rfl) ?_
  obtain ⟨s_4, e5, h⟩ := sb_inv 1 elI h
  refine TL_part 2 [(zd (.sl 1 (s_4.map elI)))] (mk 42 [(2, (dt (.sl 1 (s_4.map elI)))), (3, (dt (.sl 1 (l_3.map elI)))), (40, (dt (.sl 1 (l_3.map elI)))), (41, (dt (.sl 1 (s_4.map elI))))] []) _ (by kernel_rfl) (z1 (zc e5 (z2 zt))) rfl ?_
  refine TL_nilQ ?_
  refine T_turn [] [2] [] (mk 42 [(2, (dt (.sl 1 (s_4.map elI))))] []) (by kernel_rfl) ?_
  refine T_ret ?_
  obtain rfl := some_inv h
  exact ret_here [(dt (.sl 1 (s_4.map elI)))] (by kernel_rfl) (.inl rfl)
  refine T_reg [zn, zn, (zd (I ((s_1.p.length : Nat) : Int)))] [3, 10, 11, 12] [1] (mk 42 [(3, (ow 8)), (10, (dt (.sl 3 (s_1.p.map encPrize)))), (11, (di ((s_1.p.length : Nat) : Int))), (12, (di 0))] [(8, (.row 3 1 ((List.replicate 25 (0 : Int)).map elI)))]) _ (by kernel_rfl) (z5 (zc (len_s encPrize s_1.p) (z2 zt))) ?_
  refine T_block ?_
  refine T_arr [] [3, 10, 11, 12] [] [8] _ (by kernel_rfl) (T_loopO (σ := Nat × (List Int)) (fun ((v_6, l_7) : Nat × (List Int)) => (mk 42 [(3, (ow 8)), (10, (dt (.sl 3 (s_1.p.map encPrize)))), (11, (di ((s_1.p.length : Nat) : Int))), (12, (di ((v_6 : Nat) : Int)))] [(8, (.row 3 1 (l_7.map elI)))])) (g_prizes_parts_l2 s_1) (0, (List.replicate 25 (0 : Int))) h (fun v y1 hy1 h => ?_))
  obtain ⟨v_6, l_7⟩ := v
  refine T_reg [] [3, 10, 11, 12, 13] [] (mk 42 [(3, (ow 8)), (10, (dt (.sl 3 (s_1.p.map encPrize)))), (11, (di ((s_1.p.length : Nat) : Int))), (12, (di ((v_6 : Nat) : Int))), (13, (db (decide (((v_6 : Nat) : Int) < ((s_1.p.length : Nat) : Int)))))] [(8, (.row 3 1 (l_7.map elI)))]) _ (by kernel_rfl) (z2 zt) ?_
  refine T_seq ?_
  refine T_cond (decide (((v_6 : Nat) : Int) < ((s_1.p.length : Nat) : Int))) (by kernel_rfl) (fun b10 => ?_) (fun b10 => ?_)
  replace h := ite_t b10 h
  refine T_skip ?_
  refine T_seqJ (α := List Int) (fun (l_11 : List Int) => (mk 42 [(3, (ow 8)), (10, (dt (.sl 3 (s_1.p.map encPrize)))), (11, (di ((s_1.p.length : Nat) : Int))), (12, (di ((v_6 : Nat) : Int)))] [(8, (.row 3 1 (l_11.map elI)))])) (fun (l_11 : List Int) => g_prizes_parts_j3 v_6 s_1 l_11 = some y1) (fun l_11 h => ?_) ?_
  obtain ⟨c12, h⟩ := ckI_inv h
  exact T_regJ [(zd (I ((v_6 + 1 : Nat) : Int)))] [] [3, 10, 11, 12] [] [8] _ _ (by kernel_rfl) (z1 (zc c12 (z2 zt))) (fun s hs => Exists.intro (v_6 + 1, l_11) (And.intro h hs))
  refine T_block ?_
  obtain ⟨x_13, e14, e15, e16, h⟩ := gn_inv encPrize h
  refine T_reg [(zd (encPrize x_13))] [3, 5, 10, 11, 12] [] (mk 42 [(3, (ow 8)), (5, (rf 5 0)), (10, (dt (.sl 3 (s_1.p.map encPrize)))), (11, (di ((s_1.p.length : Nat) : Int))), (12, (di ((v_6 : Nat) : Int)))] [(5, (.var (qPrize x_13))), (8, (.row 3 1 (l_7.map elI)))]) _ (by kernel_rfl) (z1 (zc e14 (z6 zt))) ?_
  obtain ⟨c17, h⟩ := ckI_inv h
  obtain ⟨c18, h⟩ := ckI_inv h
  obtain ⟨r_19, e20, h⟩ := bd_inv h
  refine T_reg [zn, zn, zn, zn, zn, zn, (zd (I (x_13.t - x_13.f))), (zd (I ((x_13.t - x_13.f) + 1))), (zd (.sl 1 (r_19.map elI))), (zd (I ((r_19.length : Nat) : Int)))] [3, 5, 10, 11, 12, 24, 25, 26] [] (mk 42 [(3, (ow 8)), (5, (rf 5 0)), (10, (dt (.sl 3 (s_1.p.map encPrize)))), (11, (di ((s_1.p.length : Nat) : Int))), (12, (di ((v_6 : Nat) : Int))), (24, (dt (.sl 1 (r_19.map elI)))), (25, (di ((r_19.length : Nat) : Int))), (26, (di 0))] [(5, (.var (qPrize x_13))), (8, (.row 3 1 (l_7.map elI)))]) _ (by kernel_rfl) (z8 (z5 (zc c17 (z1 (zc c18 (z1 (zc (g_prizes_equal_ret e20) (z1 (zc (len_s elI r_19) (z2 zt)))))))))) ?_
  refine T_block ?_
  refine T_arr [] [3, 5, 10, 11, 12, 24, 25, 26] [] [5, 8] _ (by kernel_rfl) (T_loopO (σ := Nat × (List Int)) (fun ((v_21, l_22) : Nat × (List Int)) => (mk 42 [(3, (ow 8)), (5, (rf 5 0)), (10, (dt (.sl 3 (s_1.p.map encPrize)))), (11, (di ((s_1.p.length : Nat) : Int))), (12, (di ((v_6 : Nat) : Int))), (24, (dt (.sl 1 (r_19.map elI)))), (25, (di ((r_19.length : Nat) : Int))), (26, (di ((v_21 : Nat) : Int)))] [(5, (.var (qPrize x_13))), (8, (.row 3 1 (l_22.map elI)))])) (g_prizes_parts_l4 r_19 x_13 v_6 s_1) (0, l_7) h (fun v y2 hy2 h => ?_))
  obtain ⟨v_21, l_22⟩ := v
  refine T_reg [] [3, 5, 10, 11, 12, 24, 25, 26, 27] [] (mk 42 [(3, (ow 8)), (5, (rf 5 0)), (10, (dt (.sl 3 (s_1.p.map encPrize)))), (11, (di ((s_1.p.length : Nat) : Int))), (12, (di ((v_6 : Nat) : Int))), (24, (dt (.sl 1 (r_19.map elI)))), (25, (di ((r_19.length : Nat) : Int))), (26, (di ((v_21 : Nat) : Int))), (27, (db (decide (((v_21 : Nat) : Int) < ((r_19.length : Nat) : Int)))))] [(5, (.var (qPrize x_13))), (8, (.row 3 1 (l_22.map elI)))]) _ (by kernel_rfl) (z2 zt) ?_
  refine T_seq ?_
  refine T_cond (decide (((v_21 : Nat) : Int) < ((r_19.length : Nat) : Int))) (by kernel_rfl) (fun b25 => ?_) (fun b25 => ?_)
  replace h := ite_t b25 h
  refine T_skip ?_
  refine T_seq ?_
  refine T_block ?_
  obtain ⟨x_26, e27, e28, e29, h⟩ := gn_inv elI h
  refine T_reg [zn, (zd (I x_26))] [3, 5, 6, 7, 10, 11, 12, 24, 25, 26] [] (mk 42 [(3, (ow 8)), (5, (rf 5 0)), (6, (di ((v_21 : Nat) : Int))), (7, (di x_26)), (10, (dt (.sl 3 (s_1.p.map encPrize)))), (11, (di ((s_1.p.length : Nat) : Int))), (12, (di ((v_6 : Nat) : Int))), (24, (dt (.sl 1 (r_19.map elI)))), (25, (di ((r_19.length : Nat) : Int))), (26, (di ((v_21 : Nat) : Int)))] [(5, (.var (qPrize x_13))), (8, (.row 3 1 (l_22.map elI)))]) _ (by kernel_rfl) (z3 (zc e27 (z6 zt))) ?_
  obtain ⟨c30, h⟩ := ckI_inv h
  obtain ⟨x_31, e32, e33, e34, h⟩ := gt_inv elI h
  refine T_regE (hl 8 [(4, (zd (I (x_13.f + ((v_21 : Nat) : Int))))), (7, (zd (.tup [(I x_31), (.sl 1 ((l_22.set ((x_13.f + ((v_21 : Nat) : Int))).toNat x_26).map elI))])))]) (mk 42 [(3, (ow 8)), (5, (rf 5 0)), (6, (di ((v_21 : Nat) : Int))), (7, (di x_26)), (10, (dt (.sl 3 (s_1.p.map encPrize)))), (11, (di ((s_1.p.length : Nat) : Int))), (12, (di ((v_6 : Nat) : Int))), (24, (dt (.sl 1 (r_19.map elI)))), (25, (di ((r_19.length : Nat) : Int))), (26, (di ((v_21 : Nat) : Int))), (31, (ow 8)), (32, (rf 5 0)), (33, (di x_13.f)), (34, (di ((v_21 : Nat) : Int))), (35, (di (x_13.f + ((v_21 : Nat) : Int)))), (36, (di x_26)), (37, (.one (.rref 8 ((x_13.f + ((v_21 : Nat) : Int))).toNat 0)))] [(5, (.var (qPrize x_13))), (8, (.row 3 1 ((l_22.set ((x_13.f + ((v_21 : Nat) : Int))).toNat x_26).map elI)))]) _ (by kernel_rfl) (z8 (z1 (zc c30 (z3 (zc e33 (z1 (zc (set_inv elI x_26 e34) zt))))))) ?_
  obtain ⟨c35, h⟩ := ckI_inv h
  exact T_regJ [(zd (I ((v_21 + 1 : Nat) : Int)))] [] [3, 5, 10, 11, 12, 24, 25, 26] [] [5, 8] _ _ (by kernel_rfl) (z1 (zc c35 (z2 zt))) (fun s hs => Exists.intro (v_21 + 1, (l_22.set ((x_13.f + ((v_21 : Nat) : Int))).toNat x_26)) (And.intro h hs))
  replace h := ite_f b25 h
  refine T_exit ?_
  replace h := up_inv h hy2
  exact Exists.intro l_22 (And.intro h (arr [] [3, 10, 11, 12] [5] [8] (by kernel_rfl)))
  replace h := ite_f b10 h
  refine T_exit ?_
  replace h := up_inv h hy1
  exact Exists.intro l_7 (And.intro h (arr [] [3] [] [8] (by kernel_rfl)))

theorem g_prizes_Prizes_2_ret {a_1 : Place} {b_2 : Place} {r : Bool} (h : g_prizes_Prizes_2 a_1 b_2 = some r) : Ret Try.prog 26 [(encPlace a_1), (encPlace b_2)] (B (r)) := by
  refine Ret.of_T Try.func26 (by kernel_rfl) rfl ?_
  refine T_turn [] [0, 1] [] (mk 10 [(0, (.agg (qPlace a_1))), (1, (.agg (qPlace b_2)))] []) (by kernel_rfl) ?_
  refine T_reg [] [2, 3] [] (mk 10 [(2, (rf 2 0)), (3, (rf 3 0))] [(3, (.var (qPlace b_2))), (2, (.var (qPlace a_1)))]) _ (by kernel_rfl) (z6 zt) ?_
  refine T_reg [] [4] [3, 2] (mk 10 [(4, (db (a_1.k == b_2.k)))] []) _ (by kernel_rfl) (z8 (z4 zt)) ?_
  refine T_ret ?_
  obtain rfl := some_inv h
  exact ret_here [(db (a_1.k == b_2.k))] (by kernel_rfl) (.inl rfl)

theorem g_math_bits_Len64_ret {x_1 : Int} {r : Int} (h : g_math_bits_Len64 x_1 = some r) : Ret Try.prog 66 [(.int .u64 x_1)] (I r) := by
  refine Ret.of_T Try.func66 (by kernel_rfl) rfl ?_
  refine T_turn [] [0] [] (mk 25 [(0, (dt (.int .u64 x_1)))] []) (by kernel_rfl) ?_
  refine T_reg [] [0, 2] [] (mk 25 [(0, (dt (.int .u64 x_1))), (2, (di 0))] []) _ (by kernel_rfl) (z2 zt) ?_
  refine T_seqJ (α := Int × Int) (fun ((x_2, n_3) : Int × Int) => (mk 25 [(0, (dt (.int .u64 x_2))), (2, (di n_3))] [])) (fun ((x_2, n_3) : Int × Int) => g_math_bits_Len64_j1 x_2 n_3 = some r) (fun v h => ?_) ?_
  obtain ⟨x_2, n_3⟩ := v
  refine T_seqJ (α := Int × Int) (fun ((x_4, n_5) : Int × Int) => (mk 25 [(0, (dt (.int .u64 x_4))), (2, (di n_5))] [])) (fun ((x_4, n_5) : Int × Int) => g_math_bits_Len64_j2 x_4 n_5 = some r) (fun v h => ?_) ?_
  obtain ⟨x_4, n_5⟩ := v
  refine T_seqJ (α := Int × Int) (fun ((x_6, n_7) : Int × Int) => (mk 25 [(0, (dt (.int .u64 x_6))), (2, (di n_7))] [])) (fun ((x_6, n_7) : Int × Int) => g_math_bits_Len64_j3 x_6 n_7 = some r) (fun v h => ?_) ?_
  obtain ⟨x_6, n_7⟩ := v
  obtain ⟨b_8, e9, h⟩ := gts_inv h
  obtain ⟨c10, h⟩ := ckI_inv h
  obtain ⟨c11, h⟩ := ckI_inv h
  refine T_reg [zn, zn, zn, (zd (.str [b_8])), (zd (I ((b_8.toNat : Nat) : Int))), (zd (I (n_7 + ((b_8.toNat : Nat) : Int))))] [2] [] (mk 25 [(2, (di (n_7 + ((b_8.toNat : Nat) : Int))))] []) _ (by kernel_rfl) (z7 (zc e9 (z1 (zc c10 (z1 (zc c11 (z2 zt))))))) ?_
  refine T_ret ?_
  obtain rfl := some_inv h
  exact ret_here [(di (n_7 + ((b_8.toNat : Nat) : Int)))] (by kernel_rfl) (.inl rfl)
  refine T_reg [] [0, 2, 14] [] (mk 25 [(0, (dt (.int .u64 x_4))), (2, (di n_5)), (14, (db (decide (x_4 ≥ 256))))] []) _ (by kernel_rfl) (z4 zt) ?_
  refine T_cond (decide (x_4 ≥ 256)) (by kernel_rfl) (fun b12 => ?_) (fun b12 => ?_)
  replace h := ite_t b12 h
  refine T_reg [] [0, 2] [] (mk 25 [(0, (dt (.int .u64 (x_4 / 2 ^ (8 : Int).toNat)))), (2, (di n_5))] []) _ (by kernel_rfl) (z3 (zc (And.intro (show 0 ≤ (8 : Int) ∧ (8 : Int) ≤ ((IntKind.u64.bits : Nat) : Int) by decide) trivial) (z2 zt))) ?_
  obtain ⟨c13, h⟩ := ckI_inv h
  exact T_regJ [zn, (zd (I (n_5 + 8)))] [] [0, 2] [] [] _ _ (by kernel_rfl) (z3 (zc c13 (z2 zt))) (fun s hs => Exists.intro ((x_4 / 2 ^ (8 : Int).toNat), (n_5 + 8)) (And.intro h hs))
  replace h := ite_f b12 h
  refine T_skip ?_
  exact Exists.intro (x_4, n_5) (And.intro h (arr [] [0, 2] [] [] (by kernel_rfl)))
  refine T_reg [] [0, 2, 8] [] (mk 25 [(0, (dt (.int .u64 x_2))), (2, (di n_3)), (8, (db (decide (x_2 ≥ 65536))))] []) _ (by kernel_rfl) (z4 zt) ?_
  refine T_cond (decide (x_2 ≥ 65536)) (by kernel_rfl) (fun b14 => ?_) (fun b14 => ?_)
  replace h := ite_t b14 h
  refine T_reg [] [0, 2] [] (mk 25 [(0, (dt (.int .u64 (x_2 / 2 ^ (16 : Int).toNat)))), (2, (di n_3))] []) _ (by kernel_rfl) (z3 (zc (And.intro (show 0 ≤ (16 : Int) ∧ (16 : Int) ≤ ((IntKind.u64.bits : Nat) : Int) by decide) trivial) (z2 zt))) ?_
  obtain ⟨c15, h⟩ := ckI_inv h
  exact T_regJ [zn, (zd (I (n_3 + 16)))] [] [0, 2] [] [] _ _ (by kernel_rfl) (z3 (zc c15 (z2 zt))) (fun s hs => Exists.intro ((x_2 / 2 ^ (16 : Int).toNat), (n_3 + 16)) (And.intro h hs))
  replace h := ite_f b14 h
  refine T_skip ?_
  exact Exists.intro (x_2, n_3) (And.intro h (arr [] [0, 2] [] [] (by kernel_rfl)))
  refine T_reg [] [0, 2, 4] [] (mk 25 [(0, (dt (.int .u64 x_1))), (2, (di 0)), (4, (db (decide (x_1 ≥ 4294967296))))] []) _ (by kernel_rfl) (z4 zt) ?_
  refine T_cond (decide (x_1 ≥ 4294967296)) (by kernel_rfl) (fun b16 => ?_) (fun b16 => ?_)
  replace h := ite_t b16 h
  refine T_reg [] [0] [] (mk 25 [(0, (dt (.int .u64 (x_1 / 2 ^ (32 : Int).toNat))))] []) _ (by kernel_rfl) (z3 (zc (And.intro (show 0 ≤ (32 : Int) ∧ (32 : Int) ≤ ((IntKind.u64.bits : Nat) : Int) by decide) trivial) (z2 zt))) ?_
  exact T_regJ [] [] [0, 2] [] [] _ _ (by kernel_rfl) (z2 zt) (fun s hs => Exists.intro ((x_1 / 2 ^ (32 : Int).toNat), 32) (And.intro h hs))
  replace h := ite_f b16 h
  refine T_skip ?_
  exact Exists.intro (x_1, 0) (And.intro h (arr [] [0, 2] [] [] (by kernel_rfl)))

theorem g_math_bits_Len_ret {x_1 : Int} {r : Int} (h : g_math_bits_Len x_1 = some r) : Ret Try.prog 47 [(.int .u64 x_1)] (I r) := by
  refine Ret.of_T Try.func47 (by kernel_rfl) rfl ?_
  refine T_turn [] [0] [] (mk 8 [(0, (dt (.int .u64 x_1)))] []) (by kernel_rfl) ?_
  refine T_reg [] [0] [] (mk 8 [(0, (dt (.int .u64 x_1)))] []) _ (by kernel_rfl) (z2 zt) ?_
  refine T_seq ?_
  refine T_cond false (by kernel_rfl) (fun h => absurd (h.symm.trans (rfl : false = false)) (by decide)) (fun _ => ?_)
  refine T_skip ?_
  obtain ⟨r_2, e3, h⟩ := bd_inv h
  refine T_reg [zn, (zd (I r_2))] [2] [] (mk 8 [(2, (di r_2))] []) _ (by kernel_rfl) (z3 (zc (g_math_bits_Len64_ret e3) (z2 zt))) ?_
  refine T_ret ?_
  obtain rfl := some_inv h
  exact ret_here [(di r_2)] (by kernel_rfl) (.inl rfl)

end Go.Proofs.Ytoiiblkncbnlaaa

/-
  Go functions as partial functions, printed by auto.py: what each returns when its partial function has a value. Conditions: those of each theorem.
-/
namespace Go.Proofs.Ytoiiblkncbnlaaa
open Go.DL
set_option maxRecDepth 100000
set_option maxHeartbeats 4000000
set_option linter.unusedVariables false
set_option linter.unusedSimpArgs false
theorem g_prizes_Prizes_ret {t_1 : Tab} {s_2 : Sch} {r : (List Pay) × Int} (h : g_prizes_Prizes t_1 s_2 = some r) : Ret Try.prog 7 [(encTab t_1), (encSch s_2)] (.tup [(.sl 2 (r.1.map encPay)), (I r.2)]) := by
  refine Ret.of_T Try.func7 (by kernel_rfl) rfl ?_
  refine T_turn [] [0, 1] [] (mk 73 [(0, (.agg (qTab t_1))), (1, (.agg (qSch s_2)))] []) (by kernel_rfl) ?_
  refine T_reg [] [2, 3, 4] [] (mk 73 [(2, (rf 2 0)), (3, (rf 3 0)), (4, (rf 4 0))] [(4, (.var [(.dat nilS)])), (3, (.var (qSch s_2))), (2, (.var (qTab t_1)))]) _ (by kernel_rfl) (z8 zt) ?_
  refine T_seq ?_
  obtain ⟨r_3, e4, h⟩ := bd_inv h
  refine T_reg [zn, zn, (zd (I r_3))] [2, 3, 4, 5] [] (mk 73 [(2, (rf 2 0)), (3, (rf 3 0)), (4, (rf 4 0)), (5, (di r_3))] [(4, (.var [(.dat nilS)])), (3, (.var (qSch s_2))), (2, (.var (qTab t_1)))]) _ (by kernel_rfl) (z5 (zc (g_prizes_fits_ret e4) (z2 zt))) ?_
  refine T_reg [] [2, 3, 4, 5, 19] [] (mk 73 [(2, (rf 2 0)), (3, (rf 3 0)), (4, (rf 4 0)), (5, (di r_3)), (19, (db (r_3 != 0)))] [(4, (.var [(.dat nilS)])), (3, (.var (qSch s_2))), (2, (.var (qTab t_1)))]) _ (by kernel_rfl) (z4 zt) ?_
  refine T_cond (r_3 != 0) (by kernel_rfl) (fun b5 => ?_) (fun b5 => ?_)
  replace h := ite_t b5 h
  refine T_reg [] [4, 5] [3, 2] (mk 73 [(4, (rf 4 0)), (5, (di r_3))] [(4, (.var [(.dat nilS)]))]) _ (by kernel_rfl) (z6 zt) ?_
  refine T_ret ?_
  obtain rfl := some_inv h
  exact ret_here [(dt nilS), (di r_3)] (by kernel_rfl) ⟨(.inr ⟨rfl, 2, rfl⟩), (.inl rfl), trivial⟩
  replace h := ite_f b5 h
  refine T_skip ?_
  refine T_reg [] [2, 3, 4, 6] [] (mk 73 [(2, (rf 2 0)), (3, (rf 3 0)), (4, (rf 4 0)), (6, (.one (.fn 23 [.inl 4])))] [(4, (.var [(.dat nilS)])), (3, (.var (qSch s_2))), (2, (.var (qTab t_1)))]) _ (by kernel_rfl) (z4 zt) ?_
  obtain ⟨r_6, e7, h⟩ := bd_inv h
  refine T_reg [zn, (zd (.sl 1 (r_6.map elI)))] [2, 4, 6, 7] [3] (mk 73 [(2, (rf 2 0)), (4, (rf 4 0)), (6, (.one (.fn 23 [.inl 4]))), (7, (dt (.sl 1 (r_6.map elI))))] [(4, (.var [(.dat nilS)])), (2, (.var (qTab t_1)))]) _ (by kernel_rfl) (z3 (zc (g_prizes_parts_ret e7) (z2 zt))) ?_
  refine T_seqJ (α := List Pay) (fun (l_8 : List Pay) => (mk 73 [(4, (rf 4 0))] [(4, (.var [(.own 130)])), (130, (.row 55 2 (l_8.map encPay)))])) (fun (l_8 : List Pay) => g_prizes_Prizes_j1 l_8 = some r) (fun l_8 h => ?_) ?_
  refine T_seqJ (α := List Pay) (fun (l_9 : List Pay) => (mk 73 [(4, (rf 4 0))] [(4, (.var [(.own 130)])), (130, (.row 55 2 (l_9.map encPay)))])) (fun (l_9 : List Pay) => g_prizes_Prizes_j2 l_9 = some r) (fun l_9 h => ?_) ?_
  refine T_reg [] [4, 5] [] (mk 73 [(4, (rf 4 0)), (5, (di 0))] [(4, (.var [(.own 130)])), (130, (.row 55 2 (l_9.map encPay)))]) _ (by kernel_rfl) (z6 zt) ?_
  refine T_ret ?_
  obtain rfl := some_inv h
  exact ret_here [(ow 130), (di 0)] (by kernel_rfl) ⟨rfl, (.inl rfl), trivial⟩
  refine T_parts ?_
  refine TL_part 1 [] (mk 73 [(4, (rf 4 0)), (70, (ow 130))] [(4, (.var [(.own 130)])), (130, (.row 55 2 (l_8.map encPay)))]) _ (by kernel_rfl) (z2 zt) rfl ?_
  by_cases b10 : l_8 = []
  replace h := ifp_t b10 h
  refine TL_turn [] [4, 70] [] (mk 73 [(4, (rf 4 0)), (70, (ow 130))] [(4, (.var [(.own 130)])), (130, (.row 55 2 (([] : List Pay).map encPay)))]) (by rw [b10]; kernel_rfl) ?_
  refine TL_inline 131 28 [] Try.f28 _ rfl rfl (by kernel_rfl) Try.func28 rfl rfl (by decide) ?_
  refine T_turn [] [0, 1] [] (mk 14 [(0, (ow 130)), (1, (.one (.fn 29 [])))] [(4, (.var [(.own 130)])), (130, (.row 55 2 (([] : List Pay).map encPay)))]) (by kernel_rfl) ?_
  refine T_reg [zn, (zd (I 0))] [0, 1, 4] [] (mk 14 [(0, (ow 130)), (1, (.one (.fn 29 []))), (4, (di 0))] [(4, (.var [(.own 130)])), (130, (.row 55 2 (([] : List Pay).map encPay)))]) _ (by kernel_rfl) (z3 (zc (len_z encPay) (z2 zt))) ?_
  obtain ⟨r_11, e12, h⟩ := bd_inv h
  refine T_parts ?_
  refine TL_part 6 [zn, zn, zn, (zd (.int .u64 0)), (zd (I r_11))] (mk 14 [(0, (ow 130)), (1, (.one (.fn 29 []))), (4, (di 0)), (7, (ow 130)), (8, (di 0)), (9, (di 0)), (10, (dt (.int .u64 0))), (11, (di r_11)), (12, (.one (.fn 29 [])))] [(4, (.var [(.own 130)])), (130, (.row 55 2 (([] : List Pay).map encPay)))]) _ (by kernel_rfl) (z7 (zc (show IntKind.u64.wrap 0 = 0 by decide) (z1 (zc (g_math_bits_Len_ret e12) (z2 zt))))) rfl ?_
  refine TL_consJ (α := Unit) (fun (_ : Unit) => (mk 14 [(13, (.tup []))] [(4, (.var [(.own 130)])), (130, (.row 55 2 (([] : List Pay).map encPay)))])) (fun (_ : Unit) => g_prizes_Prizes_j3 = some r) (fun v h => ?_) ?_
  refine TL_turn [] [13] [] (mk 14 [(13, (.tup []))] [(4, (.var [(.own 130)])), (130, (.row 55 2 (([] : List Pay).map encPay)))]) (by kernel_rfl) ?_
  refine TL_nilQ ?_
  refine ⟨[], by kernel_rfl, ?_⟩
  refine TL_turn [] [4, 71] [] (mk 73 [(4, (rf 4 0)), (71, (.tup []))] [(4, (.var [(.own 130)])), (130, (.row 55 2 (([] : List Pay).map encPay)))]) (by kernel_rfl) ?_
  refine TL_nilQ ?_
  exact Exists.intro ([] : List Pay) (And.intro h (arr [] [4] [] [4, 130] (by kernel_rfl)))
  refine TL_inline 145 46 [] Try.f46 _ rfl rfl (by kernel_rfl) Try.func46 rfl rfl (by decide) ?_
  refine T_turn [] [0, 1, 2, 3, 4] [] (mk 148 [(0, (ow 130)), (1, (di 0)), (2, (di 0)), (3, (di r_11)), (4, (.one (.fn 29 [])))] [(4, (.var [(.own 130)])), (130, (.row 55 2 (([] : List Pay).map encPay)))]) (by kernel_rfl) ?_
  refine T_reg [] [0, 1, 2, 3, 4, 10] [] (mk 148 [(0, (ow 130)), (1, (di 0)), (2, (di 0)), (3, (di r_11)), (4, (.one (.fn 29 []))), (10, (db true))] [(4, (.var [(.own 130)])), (130, (.row 55 2 (([] : List Pay).map encPay)))]) _ (by kernel_rfl) (z2 zt) ?_
  refine T_reg [] [0, 1, 2, 3, 4, 10, 11] [] (mk 148 [(0, (ow 130)), (1, (di 0)), (2, (di 0)), (3, (di r_11)), (4, (.one (.fn 29 []))), (10, (db true)), (11, (db true))] [(4, (.var [(.own 130)])), (130, (.row 55 2 (([] : List Pay).map encPay)))]) _ (by kernel_rfl) (z2 zt) ?_
  refine T_block ?_
  refine T_arr [] [0, 1, 2, 3, 4, 10, 11] [] [4, 130] _ (by kernel_rfl) (T_loopO (σ := Unit) (fun (_ : Unit) => (mk 148 [(0, (ow 130)), (1, (di 0)), (2, (di 0)), (3, (di r_11)), (4, (.one (.fn 29 []))), (10, (db true)), (11, (db true))] [(4, (.var [(.own 130)])), (130, (.row 55 2 (([] : List Pay).map encPay)))])) (g_prizes_Prizes_l4 r_11) () h (fun v y1 hy1 h => ?_))
  refine T_block ?_
  refine T_reg [zn, zn, (zd (I 0))] [0, 1, 2, 3, 4, 10, 11, 12] [] (mk 148 [(0, (ow 130)), (1, (di 0)), (2, (di 0)), (3, (di r_11)), (4, (.one (.fn 29 []))), (10, (db true)), (11, (db true)), (12, (di 0))] [(4, (.var [(.own 130)])), (130, (.row 55 2 (([] : List Pay).map encPay)))]) _ (by kernel_rfl) (z5 (zc (show IntKind.i64.wrap (0 - 0) = 0 by decide) (z2 zt))) ?_
  refine T_seq ?_
  refine T_reg [] [0, 1, 2, 3, 4, 10, 11, 12, 25] [] (mk 148 [(0, (ow 130)), (1, (di 0)), (2, (di 0)), (3, (di r_11)), (4, (.one (.fn 29 []))), (10, (db true)), (11, (db true)), (12, (di 0)), (25, (db true))] [(4, (.var [(.own 130)])), (130, (.row 55 2 (([] : List Pay).map encPay)))]) _ (by kernel_rfl) (z4 zt) ?_
  refine T_cond true (by kernel_rfl) (fun _ => ?_) (fun h => absurd (h.symm.trans (rfl : true = true)) (by decide))
  refine T_seq (T_parts ?_)
  refine TL_part 4 [] (mk 148 [(0, (ow 130)), (1, (di 0)), (2, (di 0)), (3, (di r_11)), (4, (.one (.fn 29 []))), (10, (db true)), (11, (db true)), (12, (di 0)), (25, (db true)), (26, (ow 130)), (27, (di 0)), (28, (di 0)), (29, (.one (.fn 29 [])))] [(4, (.var [(.own 130)])), (130, (.row 55 2 (([] : List Pay).map encPay)))]) _ (by kernel_rfl) (z8 zt) rfl ?_
  refine TL_consJ (α := Unit) (fun (_ : Unit) => (mk 148 [(30, (.tup []))] [(4, (.var [(.own 130)])), (130, (.row 55 2 (([] : List Pay).map encPay)))])) (fun (_ : Unit) => g_prizes_Prizes_j5 = some y1) (fun v h => ?_) ?_
  refine TL_turn [] [30] [] (mk 148 [(30, (.tup []))] [(4, (.var [(.own 130)])), (130, (.row 55 2 (([] : List Pay).map encPay)))]) (by kernel_rfl) ?_
  refine TL_nilQ ?_
  refine T_turn [] [] [] (mk 148 [] [(4, (.var [(.own 130)])), (130, (.row 55 2 (([] : List Pay).map encPay)))]) (by kernel_rfl) ?_
  refine T_ret ?_
  replace h := up_inv h hy1
  refine ⟨[], by kernel_rfl, ?_⟩
  refine TL_nilQ ?_
  exact Exists.intro () (And.intro h (arr [] [13] [] [4, 130] (by kernel_rfl)))
  refine TL_inline 293 57 [] Try.f57 _ rfl rfl (by kernel_rfl) Try.func57 rfl rfl (by decide) ?_
  refine T_turn [] [0, 1, 2, 3] [] (mk 53 [(0, (ow 130)), (1, (di 0)), (2, (di 0)), (3, (.one (.fn 29 [])))] [(4, (.var [(.own 130)])), (130, (.row 55 2 (([] : List Pay).map encPay)))]) (by kernel_rfl) ?_
  refine T_reg [zn, (zd (I 1))] [0, 1, 2, 3, 8] [] (mk 53 [(0, (ow 130)), (1, (di 0)), (2, (di 0)), (3, (.one (.fn 29 []))), (8, (di 1))] [(4, (.var [(.own 130)])), (130, (.row 55 2 (([] : List Pay).map encPay)))]) _ (by kernel_rfl) (z3 (zc (show IntKind.i64.wrap (0 + 1) = 1 by decide) (z2 zt))) ?_
  refine T_block ?_
  refine T_arr [] [0, 1, 2, 3, 8] [] [4, 130] _ (by kernel_rfl) (T_loopO (σ := Unit) (fun (_ : Unit) => (mk 53 [(0, (ow 130)), (1, (di 0)), (2, (di 0)), (3, (.one (.fn 29 []))), (8, (di 1))] [(4, (.var [(.own 130)])), (130, (.row 55 2 (([] : List Pay).map encPay)))])) (g_prizes_Prizes_l6) () h (fun v y2 hy2 h => ?_))
  refine T_seq ?_
  refine T_reg [] [0, 1, 2, 3, 8, 14] [] (mk 53 [(0, (ow 130)), (1, (di 0)), (2, (di 0)), (3, (.one (.fn 29 []))), (8, (di 1)), (14, (db false))] [(4, (.var [(.own 130)])), (130, (.row 55 2 (([] : List Pay).map encPay)))]) _ (by kernel_rfl) (z6 zt) ?_
  refine T_cond false (by kernel_rfl) (fun h => absurd (h.symm.trans (rfl : false = false)) (by decide)) (fun _ => ?_)
  refine T_exit ?_
  replace h := up_inv h hy2
  refine ⟨[], by kernel_rfl, ?_⟩
  refine TL_nilQ ?_
  exact Exists.intro () (And.intro h (arr [] [30] [] [4, 130] (by kernel_rfl)))
  replace h := ifp_f b10 h
  obtain ⟨c13, h⟩ := ck_inv h
  obtain ⟨c14, h⟩ := ck_inv h
  refine TL_sort (enc := encPay) (R := sortP) 28 29 55 2 sort_okP rfl rfl (by kernel_rfl) 130 (by kernel_rfl) (by kernel_rfl) l_8 (by kernel_rfl) b10 c14 (fun _ => ⟨rfl, rfl⟩) (fun d15 hR16 hl17 => ?_)
  obtain rfl := sortP_uniq hR16 c13
  refine TL_turn [] [4, 71] [] (mk 73 [(4, (rf 4 0)), (71, (dt (.tup [])))] [(4, (.var [(.own 130)])), (130, (.row 55 2 ((srtP l_8).map encPay)))]) (by kernel_rfl) ?_
  refine TL_nilQ ?_
  exact Exists.intro (srtP l_8) (And.intro h (arr [] [4] [] [4, 130] (by kernel_rfl)))
  refine T_seq (T_parts ?_)
  refine TL_part 2 [] (mk 73 [(2, (rf 2 0)), (4, (rf 4 0)), (6, (.one (.fn 23 [.inl 4]))), (7, (dt (.sl 1 (r_6.map elI)))), (24, (rf 2 2)), (25, (dt (.sl 14 (t_1.l.map encPlace))))] [(4, (.var [(.dat nilS)])), (2, (.var (qTab t_1)))]) _ (by kernel_rfl) (z4 zt) rfl ?_
  refine TL_consJ (α := List (List Place)) (fun (l_18 : List (List Place)) => (mk 73 [(4, (rf 4 0)), (6, (.one (.fn 23 [.inl 4]))), (7, (dt (.sl 1 (r_6.map elI)))), (26, (ow 117))] [(4, (.var [(.dat nilS)])), (117, (.row 32 1 (l_18.map elL_encPlace)))])) (fun (l_18 : List (List Place)) => g_prizes_Prizes_j7 r_6 l_18 = some r) (fun l_18 h => ?_) ?_
  refine TL_turn [] [4, 6, 7, 26] [] (mk 73 [(4, (rf 4 0)), (6, (.one (.fn 23 [.inl 4]))), (7, (dt (.sl 1 (r_6.map elI)))), (26, (ow 117))] [(4, (.var [(.dat nilS)])), (117, (.row 32 1 (l_18.map elL_encPlace)))]) (by kernel_rfl) ?_
  refine TL_part 2 [(zd (I ((l_18.length : Nat) : Int)))] (mk 73 [(4, (rf 4 0)), (6, (.one (.fn 23 [.inl 4]))), (7, (dt (.sl 1 (r_6.map elI)))), (26, (ow 117)), (27, (di ((l_18.length : Nat) : Int))), (28, (di 0))] [(4, (.var [(.dat nilS)])), (117, (.row 32 1 (l_18.map elL_encPlace)))]) _ (by kernel_rfl) (z1 (zc (len_s elL_encPlace l_18) (z2 zt))) rfl ?_
  refine TL_nilQ ?_
  refine T_turn [] [4, 6, 7, 26, 27, 28] [] (mk 73 [(4, (rf 4 0)), (6, (.one (.fn 23 [.inl 4]))), (7, (dt (.sl 1 (r_6.map elI)))), (26, (ow 117)), (27, (di ((l_18.length : Nat) : Int))), (28, (di 0))] [(4, (.var [(.dat nilS)])), (117, (.row 32 1 (l_18.map elL_encPlace)))]) (by kernel_rfl) ?_
  refine T_block ?_
  refine T_arr [.ownC 4 0 130 55 2] [4, 6, 7, 26, 27, 28] [] [4, 117, 130] _ (by kernel_rfl) (T_loopO (σ := (List Int) × Nat × (List Pay)) (fun ((rest_19, v_20, l_21) : (List Int) × Nat × (List Pay)) => (mk 73 [(4, (rf 4 0)), (6, (.one (.fn 23 [.inl 4]))), (7, (dt (.sl 1 (rest_19.map elI)))), (26, (ow 117)), (27, (di ((l_18.length : Nat) : Int))), (28, (di ((v_20 : Nat) : Int)))] [(4, (.var [(.own 130)])), (117, (.row 32 1 (l_18.map elL_encPlace))), (130, (.row 55 2 (l_21.map encPay)))])) (g_prizes_Prizes_l8 l_18) (r_6, 0, ([] : List Pay)) h (fun v y1 hy1 h => ?_))
  obtain ⟨rest_19, v_20, l_21⟩ := v
  refine T_reg [] [4, 6, 7, 26, 27, 28, 29] [] (mk 73 [(4, (rf 4 0)), (6, (.one (.fn 23 [.inl 4]))), (7, (dt (.sl 1 (rest_19.map elI)))), (26, (ow 117)), (27, (di ((l_18.length : Nat) : Int))), (28, (di ((v_20 : Nat) : Int))), (29, (db (decide (((v_20 : Nat) : Int) < ((l_18.length : Nat) : Int)))))] [(4, (.var [(.own 130)])), (117, (.row 32 1 (l_18.map elL_encPlace))), (130, (.row 55 2 (l_21.map encPay)))]) _ (by kernel_rfl) (z2 zt) ?_
  refine T_seq ?_
  refine T_cond (decide (((v_20 : Nat) : Int) < ((l_18.length : Nat) : Int))) (by kernel_rfl) (fun b25 => ?_) (fun b25 => ?_)
  replace h := ite_t b25 h
  refine T_skip ?_
  refine T_seqJ (α := (List Int) × (List Pay)) (fun ((rest_26, l_27) : (List Int) × (List Pay)) => (mk 73 [(4, (rf 4 0)), (6, (.one (.fn 23 [.inl 4]))), (7, (dt (.sl 1 (rest_26.map elI)))), (26, (ow 117)), (27, (di ((l_18.length : Nat) : Int))), (28, (di ((v_20 : Nat) : Int)))] [(4, (.var [(.own 130)])), (117, (.row 32 1 (l_18.map elL_encPlace))), (130, (.row 55 2 (l_27.map encPay)))])) (fun ((rest_26, l_27) : (List Int) × (List Pay)) => g_prizes_Prizes_j9 v_20 l_18 rest_26 l_27 = some y1) (fun v h => ?_) ?_
  obtain ⟨rest_26, l_27⟩ := v
  obtain ⟨c28, h⟩ := ckI_inv h
  exact T_regJ [(zd (I ((v_20 + 1 : Nat) : Int)))] [] [4, 6, 7, 26, 27, 28] [] [4, 117, 130] _ _ (by kernel_rfl) (z1 (zc c28 (z2 zt))) (fun s hs => Exists.intro (rest_26, v_20 + 1, l_27) (And.intro h hs))
  refine T_block ?_
  obtain ⟨x_29, e30, e31, e32, h⟩ := gn_inv elL_encPlace h
  refine T_reg [zn, (zd (.sl 14 (x_29.map encPlace)))] [4, 6, 7, 9, 26, 27, 28] [] (mk 73 [(4, (rf 4 0)), (6, (.one (.fn 23 [.inl 4]))), (7, (dt (.sl 1 (rest_19.map elI)))), (9, (dt (.sl 14 (x_29.map encPlace)))), (26, (ow 117)), (27, (di ((l_18.length : Nat) : Int))), (28, (di ((v_20 : Nat) : Int)))] [(4, (.var [(.own 130)])), (117, (.row 32 1 (l_18.map elL_encPlace))), (130, (.row 55 2 (l_21.map encPay)))]) _ (by kernel_rfl) (z1 (zc e31 (z1 (zc e32 (z2 zt))))) ?_
  refine T_reg [] [4, 6, 7, 9, 10, 26, 27, 28] [] (mk 73 [(4, (rf 4 0)), (6, (.one (.fn 23 [.inl 4]))), (7, (dt (.sl 1 (rest_19.map elI)))), (9, (dt (.sl 14 (x_29.map encPlace)))), (10, (di 0)), (26, (ow 117)), (27, (di ((l_18.length : Nat) : Int))), (28, (di ((v_20 : Nat) : Int)))] [(4, (.var [(.own 130)])), (117, (.row 32 1 (l_18.map elL_encPlace))), (130, (.row 55 2 (l_21.map encPay)))]) _ (by kernel_rfl) (z2 zt) ?_
  refine T_seqJ (α := Int) (fun (sum_33 : Int) => (mk 73 [(4, (rf 4 0)), (6, (.one (.fn 23 [.inl 4]))), (7, (dt (.sl 1 (rest_19.map elI)))), (9, (dt (.sl 14 (x_29.map encPlace)))), (10, (di sum_33)), (26, (ow 117)), (27, (di ((l_18.length : Nat) : Int))), (28, (di ((v_20 : Nat) : Int)))] [(4, (.var [(.own 130)])), (117, (.row 32 1 (l_18.map elL_encPlace))), (130, (.row 55 2 (l_21.map encPay)))])) (fun (sum_33 : Int) => g_prizes_Prizes_j10 rest_19 x_29 l_18 v_20 l_21 sum_33 = some y1) (fun sum_33 h => ?_) ?_
  obtain ⟨s_34, e35, h⟩ := sb_inv 1 elI h
  refine T_reg [zn, zn, (zd (I ((x_29.length : Nat) : Int))), (zd (.sl 1 (s_34.map elI)))] [4, 6, 7, 9, 10, 26, 27, 28] [] (mk 73 [(4, (rf 4 0)), (6, (.one (.fn 23 [.inl 4]))), (7, (dt (.sl 1 (s_34.map elI)))), (9, (dt (.sl 14 (x_29.map encPlace)))), (10, (di sum_33)), (26, (ow 117)), (27, (di ((l_18.length : Nat) : Int))), (28, (di ((v_20 : Nat) : Int)))] [(4, (.var [(.own 130)])), (117, (.row 32 1 (l_18.map elL_encPlace))), (130, (.row 55 2 (l_21.map encPay)))]) _ (by kernel_rfl) (z5 (zc (len_s encPlace x_29) (z1 (zc e35 (z2 zt))))) ?_
  obtain ⟨r_36, e37, h⟩ := bd_inv h
  refine T_reg [zn, zn, (zd (I ((x_29.length : Nat) : Int))), (zd (.sl 1 (r_36.map elI))), (zd (I ((r_36.length : Nat) : Int)))] [4, 6, 7, 9, 26, 27, 28, 52, 53, 54] [] (mk 73 [(4, (rf 4 0)), (6, (.one (.fn 23 [.inl 4]))), (7, (dt (.sl 1 (s_34.map elI)))), (9, (dt (.sl 14 (x_29.map encPlace)))), (26, (ow 117)), (27, (di ((l_18.length : Nat) : Int))), (28, (di ((v_20 : Nat) : Int))), (52, (dt (.sl 1 (r_36.map elI)))), (53, (di ((r_36.length : Nat) : Int))), (54, (di 0))] [(4, (.var [(.own 130)])), (117, (.row 32 1 (l_18.map elL_encPlace))), (130, (.row 55 2 (l_21.map encPay)))]) _ (by kernel_rfl) (z5 (zc (len_s encPlace x_29) (z1 (zc (g_prizes_equal_ret e37) (z1 (zc (len_s elI r_36) (z2 zt))))))) ?_
  refine T_block ?_
  refine T_arr [] [4, 6, 7, 9, 26, 27, 28, 52, 53, 54] [] [4, 117, 130] _ (by kernel_rfl) (T_loopO (σ := Nat × (List Pay)) (fun ((v_38, l_39) : Nat × (List Pay)) => (mk 73 [(4, (rf 4 0)), (6, (.one (.fn 23 [.inl 4]))), (7, (dt (.sl 1 (s_34.map elI)))), (9, (dt (.sl 14 (x_29.map encPlace)))), (26, (ow 117)), (27, (di ((l_18.length : Nat) : Int))), (28, (di ((v_20 : Nat) : Int))), (52, (dt (.sl 1 (r_36.map elI)))), (53, (di ((r_36.length : Nat) : Int))), (54, (di ((v_38 : Nat) : Int)))] [(4, (.var [(.own 130)])), (117, (.row 32 1 (l_18.map elL_encPlace))), (130, (.row 55 2 (l_39.map encPay)))])) (g_prizes_Prizes_l11 r_36 x_29 s_34 l_18 v_20) (0, l_21) h (fun v y2 hy2 h => ?_))
  obtain ⟨v_38, l_39⟩ := v
  refine T_reg [] [4, 6, 7, 9, 26, 27, 28, 52, 53, 54, 55] [] (mk 73 [(4, (rf 4 0)), (6, (.one (.fn 23 [.inl 4]))), (7, (dt (.sl 1 (s_34.map elI)))), (9, (dt (.sl 14 (x_29.map encPlace)))), (26, (ow 117)), (27, (di ((l_18.length : Nat) : Int))), (28, (di ((v_20 : Nat) : Int))), (52, (dt (.sl 1 (r_36.map elI)))), (53, (di ((r_36.length : Nat) : Int))), (54, (di ((v_38 : Nat) : Int))), (55, (db (decide (((v_38 : Nat) : Int) < ((r_36.length : Nat) : Int)))))] [(4, (.var [(.own 130)])), (117, (.row 32 1 (l_18.map elL_encPlace))), (130, (.row 55 2 (l_39.map encPay)))]) _ (by kernel_rfl) (z2 zt) ?_
  refine T_seq ?_
  refine T_cond (decide (((v_38 : Nat) : Int) < ((r_36.length : Nat) : Int))) (by kernel_rfl) (fun b42 => ?_) (fun b42 => ?_)
  replace h := ite_t b42 h
  refine T_skip ?_
  refine T_seq ?_
  refine T_block ?_
  obtain ⟨x_43, e44, e45, e46, h⟩ := gn_inv elI h
  refine T_reg [zn, (zd (I x_43))] [4, 6, 7, 9, 13, 14, 26, 27, 28, 52, 53, 54] [] (mk 73 [(4, (rf 4 0)), (6, (.one (.fn 23 [.inl 4]))), (7, (dt (.sl 1 (s_34.map elI)))), (9, (dt (.sl 14 (x_29.map encPlace)))), (13, (di ((v_38 : Nat) : Int))), (14, (di x_43)), (26, (ow 117)), (27, (di ((l_18.length : Nat) : Int))), (28, (di ((v_20 : Nat) : Int))), (52, (dt (.sl 1 (r_36.map elI)))), (53, (di ((r_36.length : Nat) : Int))), (54, (di ((v_38 : Nat) : Int)))] [(4, (.var [(.own 130)])), (117, (.row 32 1 (l_18.map elL_encPlace))), (130, (.row 55 2 (l_39.map encPay)))]) _ (by kernel_rfl) (z3 (zc e44 (z6 zt))) ?_
  obtain ⟨x_47, e48, e49, e50, h⟩ := gn_inv encPlace h
  refine T_parts ?_
  refine TL_part 8 [zn, zn, zn, (zd (encPlace x_47))] (mk 73 [(4, (rf 4 0)), (6, (.one (.fn 23 [.inl 4]))), (7, (dt (.sl 1 (s_34.map elI)))), (9, (dt (.sl 14 (x_29.map encPlace)))), (13, (di ((v_38 : Nat) : Int))), (14, (di x_43)), (26, (ow 117)), (27, (di ((l_18.length : Nat) : Int))), (28, (di ((v_20 : Nat) : Int))), (52, (dt (.sl 1 (r_36.map elI)))), (53, (di ((r_36.length : Nat) : Int))), (54, (di ((v_38 : Nat) : Int))), (59, (.one (.fn 23 [.inl 4]))), (60, (dt (.sl 14 (x_29.map encPlace)))), (61, (di ((v_38 : Nat) : Int))), (62, (dt (.ptr [(I x_47.k), (I x_47.b), (.str x_47.z), (I x_47.r.c), (I x_47.r.pl), (I x_47.r.wo), (I x_47.r.dr), (I x_47.r.lo), (I x_47.r.fo), (I x_47.r.ag), (I x_47.r.af), (I x_47.r.aw), (I x_47.r.ca), (I x_47.r.po)]))), (63, (dt (.ptr [(I x_47.r.c), (I x_47.r.pl), (I x_47.r.wo), (I x_47.r.dr), (I x_47.r.lo), (I x_47.r.fo), (I x_47.r.ag), (I x_47.r.af), (I x_47.r.aw), (I x_47.r.ca), (I x_47.r.po)]))), (64, (dt (.ptr [(I x_47.r.c), (I x_47.r.pl), (I x_47.r.wo), (I x_47.r.dr), (I x_47.r.lo), (I x_47.r.fo), (I x_47.r.ag), (I x_47.r.af), (I x_47.r.aw), (I x_47.r.ca), (I x_47.r.po)]))), (65, (di x_47.r.c)), (66, (di x_43))] [(4, (.var [(.own 130)])), (117, (.row 32 1 (l_18.map elL_encPlace))), (130, (.row 55 2 (l_39.map encPay)))]) _ (by kernel_rfl) (z7 (zc e48 (z8 zt))) rfl ?_
  refine TL_consJ (α := List Pay) (fun (l_51 : List Pay) => (mk 73 [(4, (rf 4 0)), (6, (.one (.fn 23 [.inl 4]))), (7, (dt (.sl 1 (s_34.map elI)))), (9, (dt (.sl 14 (x_29.map encPlace)))), (26, (ow 117)), (27, (di ((l_18.length : Nat) : Int))), (28, (di ((v_20 : Nat) : Int))), (52, (dt (.sl 1 (r_36.map elI)))), (53, (di ((r_36.length : Nat) : Int))), (54, (di ((v_38 : Nat) : Int))), (67, (.tup []))] [(4, (.var [(.own 130)])), (117, (.row 32 1 (l_18.map elL_encPlace))), (130, (.row 55 2 (l_51.map encPay)))])) (fun (l_51 : List Pay) => g_prizes_Prizes_j12 v_38 s_34 x_29 l_18 v_20 r_36 l_51 = some y2) (fun l_51 h => ?_) ?_
  refine TL_turn [] [4, 6, 7, 9, 26, 27, 28, 52, 53, 54, 67] [] (mk 73 [(4, (rf 4 0)), (6, (.one (.fn 23 [.inl 4]))), (7, (dt (.sl 1 (s_34.map elI)))), (9, (dt (.sl 14 (x_29.map encPlace)))), (26, (ow 117)), (27, (di ((l_18.length : Nat) : Int))), (28, (di ((v_20 : Nat) : Int))), (52, (dt (.sl 1 (r_36.map elI)))), (53, (di ((r_36.length : Nat) : Int))), (54, (di ((v_38 : Nat) : Int))), (67, (.tup []))] [(4, (.var [(.own 130)])), (117, (.row 32 1 (l_18.map elL_encPlace))), (130, (.row 55 2 (l_51.map encPay)))]) (by kernel_rfl) ?_
  refine TL_nilQ ?_
  obtain ⟨c52, h⟩ := ckI_inv h
  exact T_regJ [(zd (I ((v_38 + 1 : Nat) : Int)))] [] [4, 6, 7, 9, 26, 27, 28, 52, 53, 54] [] [4, 117, 130] _ _ (by kernel_rfl) (z1 (zc c52 (z2 zt))) (fun s hs => Exists.intro (v_38 + 1, l_51) (And.intro h hs))
  refine TL_inline 131 23 [.inl 4] Try.f23 _ rfl rfl (by kernel_rfl) Try.func23 rfl rfl (by decide) ?_
  refine T_turn [] [0, 1, 2] [] (mk 13 [(0, (di x_47.r.c)), (1, (di x_43)), (2, (rf 4 0))] [(4, (.var [(.own 130)])), (117, (.row 32 1 (l_18.map elL_encPlace))), (130, (.row 55 2 (l_39.map encPay)))]) (by kernel_rfl) ?_
  refine T_reg [] [0, 1, 2, 6] [] (mk 13 [(0, (di x_47.r.c)), (1, (di x_43)), (2, (rf 4 0)), (6, (db (decide (x_43 > 0))))] [(4, (.var [(.own 130)])), (117, (.row 32 1 (l_18.map elL_encPlace))), (130, (.row 55 2 (l_39.map encPay)))]) _ (by kernel_rfl) (z4 zt) ?_
  refine T_cond (decide (x_43 > 0)) (by kernel_rfl) (fun b53 => ?_) (fun b53 => ?_)
  replace h := ite_t b53 h
  obtain ⟨c54, h⟩ := ck_inv h
  refine T_regE (hl 6 [(5, (zd (.sl 2 ((l_39 ++ [(⟨x_47.r.c, x_43⟩ : Pay)]).map encPay))))]) (mk 13 [(0, (di x_47.r.c)), (1, (di x_43)), (2, (rf 4 0)), (6, (db (decide (x_43 > 0)))), (8, (di x_47.r.c)), (9, (di x_43)), (10, (.agg [(.dat (I x_47.r.c)), (.dat (I x_43))])), (11, (ow 142)), (12, (ow 143))] [(143, (.row 55 2 ((l_39 ++ [(⟨x_47.r.c, x_43⟩ : Pay)]).map encPay))), (142, (.row 55 2 ([(⟨x_47.r.c, x_43⟩ : Pay)].map encPay))), (4, (.var [(.own 143)])), (117, (.row 32 1 (l_18.map elL_encPlace)))]) _ (by kernel_rfl) (z8 (z1 (zc (show dfill (fun i => some (i * 2, 2)) (List.replicate (1 * 2) .junk) [(0, [(.dat (I x_47.r.c)), (.dat (I x_43))])] = some ((flat ([(⟨x_47.r.c, x_43⟩ : Pay)].map encPay)).map .dat) from rfl) (z1 (zc (app_s encPay encPay_one l_39 ([(⟨x_47.r.c, x_43⟩ : Pay)]) c54) (z2 zt)))))) ?_
  refine ⟨[], by kernel_rfl, ?_⟩
  refine TL_nilQ ?_
  exact Exists.intro (l_39 ++ [(⟨x_47.r.c, x_43⟩ : Pay)]) (And.intro h (arr [.ren 143 130] [4, 6, 7, 9, 26, 27, 28, 52, 53, 54, 67] [142] [4, 117, 130] (by kernel_rfl)))
  replace h := ite_f b53 h
  refine T_skip ?_
  refine ⟨[], by kernel_rfl, ?_⟩
  refine TL_nilQ ?_
  exact Exists.intro l_39 (And.intro h (arr [] [4, 6, 7, 9, 26, 27, 28, 52, 53, 54, 67] [] [4, 117, 130] (by kernel_rfl)))
  replace h := ite_f b42 h
  refine T_exit ?_
  replace h := up_inv h hy2
  exact Exists.intro (s_34, l_39) (And.intro h (arr [] [4, 6, 7, 26, 27, 28] [] [4, 117, 130] (by kernel_rfl)))
  obtain ⟨s_55, e56, h⟩ := sb_inv 1 elI h
  refine T_reg [zn, zn, (zd (I ((x_29.length : Nat) : Int))), (zd (.sl 1 (s_55.map elI))), (zd (I ((s_55.length : Nat) : Int)))] [4, 6, 7, 9, 10, 26, 27, 28, 35, 36, 37] [] (mk 73 [(4, (rf 4 0)), (6, (.one (.fn 23 [.inl 4]))), (7, (dt (.sl 1 (rest_19.map elI)))), (9, (dt (.sl 14 (x_29.map encPlace)))), (10, (di 0)), (26, (ow 117)), (27, (di ((l_18.length : Nat) : Int))), (28, (di ((v_20 : Nat) : Int))), (35, (dt (.sl 1 (s_55.map elI)))), (36, (di ((s_55.length : Nat) : Int))), (37, (di 0))] [(4, (.var [(.own 130)])), (117, (.row 32 1 (l_18.map elL_encPlace))), (130, (.row 55 2 (l_21.map encPay)))]) _ (by kernel_rfl) (z5 (zc (len_s encPlace x_29) (z1 (zc e56 (z1 (zc (len_s elI s_55) (z2 zt))))))) ?_
  refine T_block ?_
  refine T_arr [] [4, 6, 7, 9, 10, 26, 27, 28, 35, 36, 37] [] [4, 117, 130] _ (by kernel_rfl) (T_loopO (σ := Int × Nat) (fun ((sum_57, v_58) : Int × Nat) => (mk 73 [(4, (rf 4 0)), (6, (.one (.fn 23 [.inl 4]))), (7, (dt (.sl 1 (rest_19.map elI)))), (9, (dt (.sl 14 (x_29.map encPlace)))), (10, (di sum_57)), (26, (ow 117)), (27, (di ((l_18.length : Nat) : Int))), (28, (di ((v_20 : Nat) : Int))), (35, (dt (.sl 1 (s_55.map elI)))), (36, (di ((s_55.length : Nat) : Int))), (37, (di ((v_58 : Nat) : Int)))] [(4, (.var [(.own 130)])), (117, (.row 32 1 (l_18.map elL_encPlace))), (130, (.row 55 2 (l_21.map encPay)))])) (g_prizes_Prizes_l13 s_55 rest_19 x_29 l_18 v_20 l_21) (0, 0) h (fun v y2 hy2 h => ?_))
  obtain ⟨sum_57, v_58⟩ := v
  refine T_reg [] [4, 6, 7, 9, 10, 26, 27, 28, 35, 36, 37, 38] [] (mk 73 [(4, (rf 4 0)), (6, (.one (.fn 23 [.inl 4]))), (7, (dt (.sl 1 (rest_19.map elI)))), (9, (dt (.sl 14 (x_29.map encPlace)))), (10, (di sum_57)), (26, (ow 117)), (27, (di ((l_18.length : Nat) : Int))), (28, (di ((v_20 : Nat) : Int))), (35, (dt (.sl 1 (s_55.map elI)))), (36, (di ((s_55.length : Nat) : Int))), (37, (di ((v_58 : Nat) : Int))), (38, (db (decide (((v_58 : Nat) : Int) < ((s_55.length : Nat) : Int)))))] [(4, (.var [(.own 130)])), (117, (.row 32 1 (l_18.map elL_encPlace))), (130, (.row 55 2 (l_21.map encPay)))]) _ (by kernel_rfl) (z2 zt) ?_
  refine T_seq ?_
  refine T_cond (decide (((v_58 : Nat) : Int) < ((s_55.length : Nat) : Int))) (by kernel_rfl) (fun b61 => ?_) (fun b61 => ?_)
  replace h := ite_t b61 h
  refine T_skip ?_
  refine T_seq ?_
  refine T_block ?_
  obtain ⟨x_62, e63, e64, e65, h⟩ := gn_inv elI h
  refine T_reg [(zd (I x_62))] [4, 6, 7, 9, 10, 12, 26, 27, 28, 35, 36, 37] [] (mk 73 [(4, (rf 4 0)), (6, (.one (.fn 23 [.inl 4]))), (7, (dt (.sl 1 (rest_19.map elI)))), (9, (dt (.sl 14 (x_29.map encPlace)))), (10, (di sum_57)), (12, (di x_62)), (26, (ow 117)), (27, (di ((l_18.length : Nat) : Int))), (28, (di ((v_20 : Nat) : Int))), (35, (dt (.sl 1 (s_55.map elI)))), (36, (di ((s_55.length : Nat) : Int))), (37, (di ((v_58 : Nat) : Int)))] [(4, (.var [(.own 130)])), (117, (.row 32 1 (l_18.map elL_encPlace))), (130, (.row 55 2 (l_21.map encPay)))]) _ (by kernel_rfl) (z1 (zc e63 (z4 zt))) ?_
  obtain ⟨c66, h⟩ := ckI_inv h
  refine T_regE [zn, zn, (zd (I (sum_57 + x_62)))] (mk 73 [(4, (rf 4 0)), (6, (.one (.fn 23 [.inl 4]))), (7, (dt (.sl 1 (rest_19.map elI)))), (9, (dt (.sl 14 (x_29.map encPlace)))), (10, (di (sum_57 + x_62))), (12, (di x_62)), (26, (ow 117)), (27, (di ((l_18.length : Nat) : Int))), (28, (di ((v_20 : Nat) : Int))), (35, (dt (.sl 1 (s_55.map elI)))), (36, (di ((s_55.length : Nat) : Int))), (37, (di ((v_58 : Nat) : Int))), (41, (di sum_57)), (42, (di x_62)), (43, (di (sum_57 + x_62)))] [(4, (.var [(.own 130)])), (117, (.row 32 1 (l_18.map elL_encPlace))), (130, (.row 55 2 (l_21.map encPay)))]) _ (by kernel_rfl) (z5 (zc c66 (z2 zt))) ?_
  obtain ⟨c67, h⟩ := ckI_inv h
  exact T_regJ [(zd (I ((v_58 + 1 : Nat) : Int)))] [] [4, 6, 7, 9, 10, 26, 27, 28, 35, 36, 37] [] [4, 117, 130] _ _ (by kernel_rfl) (z1 (zc c67 (z2 zt))) (fun s hs => Exists.intro ((sum_57 + x_62), v_58 + 1) (And.intro h hs))
  replace h := ite_f b61 h
  refine T_exit ?_
  replace h := up_inv h hy2
  exact Exists.intro sum_57 (And.intro h (arr [] [4, 6, 7, 9, 10, 26, 27, 28] [] [4, 117, 130] (by kernel_rfl)))
  replace h := ite_f b25 h
  refine T_exit ?_
  replace h := up_inv h hy1
  exact Exists.intro l_21 (And.intro h (arr [] [4] [117] [4, 130] (by kernel_rfl)))
  refine TL_inline 73 25 [] Try.f25 _ rfl rfl (by kernel_rfl) Try.func25 rfl rfl (by decide) ?_
  refine T_turn [] [0, 1] [] (mk 47 [(0, (dt (.sl 14 (t_1.l.map encPlace)))), (1, (.one (.fn 26 [])))] [(4, (.var [(.dat nilS)])), (2, (.var (qTab t_1)))]) (by kernel_rfl) ?_
  refine T_reg [] [0, 1, 4] [2] (mk 47 [(0, (dt (.sl 14 (t_1.l.map encPlace)))), (1, (.one (.fn 26 []))), (4, (dt nilS))] [(4, (.var [(.dat nilS)]))]) _ (by kernel_rfl) (z2 zt) ?_
  refine T_seqJ (α := (Unit) ⊕ ((List (List Place)) × (List Place))) (fun v => match v with | (.inl _) => (mk 47 [(4, (dt nilS))] [(4, (.var [(.dat nilS)]))]) | (.inr (l_68, l_69)) => (mk 47 [(4, (ow 117))] [(4, (.var [(.dat nilS)])), (117, (.nest 32 (l_68.map elL_encPlace) (.own 500117))), (500117, (.row 38 14 (l_69.map encPlace)))])) (fun v => match v with | (.inl _) => g_prizes_Prizes_j14 r_6 = some r | (.inr (l_68, l_69)) => g_prizes_Prizes_j15 r_6 l_68 l_69 = some r) (fun v h => ?_) ?_
  rcases v with v | v
  refine T_reg [] [4] [] (mk 47 [(4, (dt nilS))] [(4, (.var [(.dat nilS)]))]) _ (by kernel_rfl) (z4 zt) ?_
  refine T_ret ?_
  refine ⟨[(dt nilS)], by kernel_rfl, ?_⟩
  refine TL_nilQ ?_
  exact Exists.intro ([] : List (List Place)) (And.intro h (arr [.ownS 26 117 32 1] [4, 6, 7, 26] [] [4, 117] (by kernel_rfl)))
  obtain ⟨l_68, l_69⟩ := v
  refine T_reg [] [4] [] (mk 47 [(4, (ow 117))] [(4, (.var [(.dat nilS)])), (117, (.nest 32 (l_68.map elL_encPlace) (.own 500117))), (500117, (.row 38 14 (l_69.map encPlace)))]) _ (by kernel_rfl) (z4 zt) ?_
  refine T_turn [500117] [4] [] (mk 47 [(4, (ow 117))] [(4, (.var [(.dat nilS)])), (117, (.nest 32 (l_68.map elL_encPlace) (.dat (.sl 14 (l_69.map encPlace)))))]) (by kernel_rfl) ?_
  refine T_nestRow 117 ((l_68 ++ [l_69]).map elL_encPlace) (mk 47 [(4, (ow 117))] [(4, (.var [(.dat nilS)])), (117, (.row 32 1 ((l_68 ++ [l_69]).map elL_encPlace)))]) (by kernel_rfl) (show l_68.map elL_encPlace ++ [(.sl 14 (l_69.map encPlace))] = (l_68 ++ [l_69]).map elL_encPlace from by simp only [List.map_append, List.map_cons, List.map_nil]; rfl) rfl ?_
  refine T_ret ?_
  refine ⟨[(ow 117)], by kernel_rfl, ?_⟩
  refine TL_nilQ ?_
  exact Exists.intro (l_68 ++ [l_69]) (And.intro h (arr [] [4, 6, 7, 26] [] [4, 117] (by kernel_rfl)))
  refine T_reg [zn, (zd (I ((t_1.l.length : Nat) : Int)))] [0, 1, 4, 7, 8, 9] [] (mk 47 [(0, (dt (.sl 14 (t_1.l.map encPlace)))), (1, (.one (.fn 26 []))), (4, (dt nilS)), (7, (dt (.sl 14 (t_1.l.map encPlace)))), (8, (di ((t_1.l.length : Nat) : Int))), (9, (di 0))] [(4, (.var [(.dat nilS)]))]) _ (by kernel_rfl) (z3 (zc (len_s encPlace t_1.l) (z2 zt))) ?_
  refine T_block ?_
  refine T_arr [] [0, 1, 4, 7, 8, 9] [] [4] _ (by kernel_rfl) (T_loopO (σ := (Unit) ⊕ (Nat × (List (List Place)) × (List Place))) (fun v => match v with | (.inl _) => (mk 47 [(0, (dt (.sl 14 (t_1.l.map encPlace)))), (1, (.one (.fn 26 []))), (4, (dt nilS)), (7, (dt (.sl 14 (t_1.l.map encPlace)))), (8, (di ((t_1.l.length : Nat) : Int))), (9, (di 0))] [(4, (.var [(.dat nilS)]))]) | (.inr (v_71, l_72, l_73)) => (mk 47 [(0, (dt (.sl 14 (t_1.l.map encPlace)))), (1, (.one (.fn 26 []))), (4, (ow 117)), (7, (dt (.sl 14 (t_1.l.map encPlace)))), (8, (di ((t_1.l.length : Nat) : Int))), (9, (di ((v_71 : Nat) : Int)))] [(4, (.var [(.dat nilS)])), (117, (.nest 32 (l_72.map elL_encPlace) (.own 500117))), (500117, (.row 38 14 (l_73.map encPlace)))])) (g_prizes_Prizes_l16 t_1 r_6) (.inl ()) h (fun v y1 hy1 h => ?_))
  rcases v with v | v
  refine T_reg [] [0, 1, 4, 7, 8, 9, 10] [] (mk 47 [(0, (dt (.sl 14 (t_1.l.map encPlace)))), (1, (.one (.fn 26 []))), (4, (dt nilS)), (7, (dt (.sl 14 (t_1.l.map encPlace)))), (8, (di ((t_1.l.length : Nat) : Int))), (9, (di 0)), (10, (db (decide (0 < ((t_1.l.length : Nat) : Int)))))] [(4, (.var [(.dat nilS)]))]) _ (by kernel_rfl) (z2 zt) ?_
  refine T_seq ?_
  refine T_cond (decide (0 < ((t_1.l.length : Nat) : Int))) (by kernel_rfl) (fun b77 => ?_) (fun b77 => ?_)
  replace h := ite_t b77 h
  refine T_skip ?_
  refine T_seq ?_
  refine T_block ?_
  obtain ⟨x_78, e79, e80, e81, h⟩ := gn_inv encPlace h
  refine T_reg [zn, (zd (encPlace x_78))] [0, 1, 4, 5, 6, 7, 8, 9] [] (mk 47 [(0, (dt (.sl 14 (t_1.l.map encPlace)))), (1, (.one (.fn 26 []))), (4, (dt nilS)), (5, (di 0)), (6, (rf 79 0)), (7, (dt (.sl 14 (t_1.l.map encPlace)))), (8, (di ((t_1.l.length : Nat) : Int))), (9, (di 0))] [(79, (.var (qPlace x_78))), (4, (.var [(.dat nilS)]))]) _ (by kernel_rfl) (z3 (zc e79 (z8 zt))) ?_
  refine T_regD 12 [zn, zn, zn, zg, zg, zg, zg, zg, zg, zg, zg, (zd (B false))] [0, 1, 4, 6, 7, 8, 9, 25] [] (mk 47 [(0, (dt (.sl 14 (t_1.l.map encPlace)))), (1, (.one (.fn 26 []))), (4, (dt nilS)), (6, (rf 79 0)), (7, (dt (.sl 14 (t_1.l.map encPlace)))), (8, (di ((t_1.l.length : Nat) : Int))), (9, (di 0)), (25, (db false))] [(79, (.var (qPlace x_78))), (4, (.var [(.dat nilS)]))]) _ (by kernel_rfl) (by kernel_rfl) (by kernel_rfl) (zc (z6 (zc (gd_ft (rfl : false = false)) (zc (gd_ft (rfl : false = false)) (zc (gd_ft (rfl : false = false)) (zc (gd_ft (rfl : false = false)) (zc (gd_ft (rfl : false = false)) (zc (gd_ft (rfl : false = false)) (zc (gd_ft (rfl : false = false)) (zc (gd_ft (rfl : false = false)) (z1 (zc (rfl : false = false) zt))))))))))) zt) ?_
  refine T_cond false (by kernel_rfl) (fun h => absurd (h.symm.trans (rfl : false = false)) (by decide)) (fun _ => ?_)
  refine T_parts ?_
  refine TL_part 3 [] (mk 47 [(0, (dt (.sl 14 (t_1.l.map encPlace)))), (1, (.one (.fn 26 []))), (4, (dt nilS)), (6, (rf 79 0)), (7, (dt (.sl 14 (t_1.l.map encPlace)))), (8, (di ((t_1.l.length : Nat) : Int))), (9, (di 0)), (25, (db false)), (40, (dt nilS)), (41, (.agg (qPlace x_78))), (42, (ow 115))] [(115, (.row 38 14 ([x_78].map encPlace))), (79, (.var (qPlace x_78))), (4, (.var [(.dat nilS)]))]) _ (by kernel_rfl) (z5 (zc (show dfill (fun i => some (i * 14, 14)) (List.replicate (1 * 14) .junk) [(0, [(.dat (I x_78.k)), (.dat (I x_78.b)), (.dat (.str x_78.z)), (.dat (I x_78.r.c)), (.dat (I x_78.r.pl)), (.dat (I x_78.r.wo)), (.dat (I x_78.r.dr)), (.dat (I x_78.r.lo)), (.dat (I x_78.r.fo)), (.dat (I x_78.r.ag)), (.dat (I x_78.r.af)), (.dat (I x_78.r.aw)), (.dat (I x_78.r.ca)), (.dat (I x_78.r.po))])] = some ((flat ([x_78].map encPlace)).map .dat) from rfl) zt)) rfl ?_
  refine TL_nest1 74 32 43 116 115 38 14 ([x_78].map encPlace) rfl rfl rfl (by kernel_rfl) (by kernel_rfl) (by kernel_rfl) (by kernel_rfl) (by decide) (by decide) ?_
  refine TL_turn [] [0, 1, 4, 7, 8, 9, 40, 43] [79] (mk 47 [(0, (dt (.sl 14 (t_1.l.map encPlace)))), (1, (.one (.fn 26 []))), (4, (dt nilS)), (7, (dt (.sl 14 (t_1.l.map encPlace)))), (8, (di ((t_1.l.length : Nat) : Int))), (9, (di 0)), (40, (dt nilS)), (43, (ow 116))] [(116, (.nest 32 (([] : List (List Place)).map elL_encPlace) (.own 115))), (115, (.row 38 14 ([x_78].map encPlace))), (4, (.var [(.dat nilS)]))]) (by kernel_rfl) ?_
  refine TL_nestApp 74 32 24 44 117 none [] 116 (.own 115) rfl rfl rfl (by kernel_rfl) (by kernel_rfl) (by decide) (by kernel_rfl) (by kernel_rfl) (by kernel_rfl) (by kernel_rfl) (by decide) (by decide) ?_
  refine TL_turn [] [0, 1, 4, 7, 8, 9, 44] [116] (mk 47 [(0, (dt (.sl 14 (t_1.l.map encPlace)))), (1, (.one (.fn 26 []))), (4, (dt nilS)), (7, (dt (.sl 14 (t_1.l.map encPlace)))), (8, (di ((t_1.l.length : Nat) : Int))), (9, (di 0)), (44, (ow 117))] [(117, (.nest 32 (([] : List (List Place)).map elL_encPlace) (.own 115))), (115, (.row 38 14 ([x_78].map encPlace))), (4, (.var [(.dat nilS)]))]) (by kernel_rfl) ?_
  refine TL_part 1 [] (mk 47 [(0, (dt (.sl 14 (t_1.l.map encPlace)))), (1, (.one (.fn 26 []))), (4, (ow 117)), (7, (dt (.sl 14 (t_1.l.map encPlace)))), (8, (di ((t_1.l.length : Nat) : Int))), (9, (di 0)), (44, (ow 117))] [(117, (.nest 32 (([] : List (List Place)).map elL_encPlace) (.own 115))), (115, (.row 38 14 ([x_78].map encPlace))), (4, (.var [(.dat nilS)]))]) _ (by kernel_rfl) (z2 zt) rfl ?_
  refine TL_nilQ ?_
  refine T_regE [(zd (I 1))] (mk 47 [(0, (dt (.sl 14 (t_1.l.map encPlace)))), (1, (.one (.fn 26 []))), (4, (ow 117)), (7, (dt (.sl 14 (t_1.l.map encPlace)))), (8, (di ((t_1.l.length : Nat) : Int))), (9, (di 1)), (44, (ow 117)), (45, (di 1))] [(117, (.nest 32 (([] : List (List Place)).map elL_encPlace) (.own 115))), (115, (.row 38 14 ([x_78].map encPlace))), (4, (.var [(.dat nilS)]))]) _ (by kernel_rfl) (z1 (zc (show IntKind.i64.wrap (0 + 1) = 1 by decide) (z2 zt))) ?_
  exact Exists.intro (.inr (1, ([] : List (List Place)), [x_78])) (And.intro h (arr [.ren 115 500117] [0, 1, 4, 7, 8, 9] [] [4, 117, 500117] (by kernel_rfl)))
  replace h := ite_f b77 h
  refine T_exit ?_
  replace h := up_inv h hy1
  exact Exists.intro (.inl ()) (And.intro h (arr [] [4] [] [4] (by kernel_rfl)))
  obtain ⟨v_71, l_72, l_73⟩ := v
  refine T_reg [] [0, 1, 4, 7, 8, 9, 10] [] (mk 47 [(0, (dt (.sl 14 (t_1.l.map encPlace)))), (1, (.one (.fn 26 []))), (4, (ow 117)), (7, (dt (.sl 14 (t_1.l.map encPlace)))), (8, (di ((t_1.l.length : Nat) : Int))), (9, (di ((v_71 : Nat) : Int))), (10, (db (decide (((v_71 : Nat) : Int) < ((t_1.l.length : Nat) : Int)))))] [(4, (.var [(.dat nilS)])), (117, (.nest 32 (l_72.map elL_encPlace) (.own 500117))), (500117, (.row 38 14 (l_73.map encPlace)))]) _ (by kernel_rfl) (z2 zt) ?_
  refine T_seq ?_
  refine T_cond (decide (((v_71 : Nat) : Int) < ((t_1.l.length : Nat) : Int))) (by kernel_rfl) (fun b82 => ?_) (fun b82 => ?_)
  replace h := ite_t b82 h
  refine T_skip ?_
  refine T_seqJ (α := (List (List Place)) × (List Place)) (fun ((l_83, l_84) : (List (List Place)) × (List Place)) => (mk 47 [(0, (dt (.sl 14 (t_1.l.map encPlace)))), (1, (.one (.fn 26 []))), (4, (ow 117)), (7, (dt (.sl 14 (t_1.l.map encPlace)))), (8, (di ((t_1.l.length : Nat) : Int))), (9, (di ((v_71 : Nat) : Int)))] [(4, (.var [(.dat nilS)])), (117, (.nest 32 (l_83.map elL_encPlace) (.own 500117))), (500117, (.row 38 14 (l_84.map encPlace)))])) (fun ((l_83, l_84) : (List (List Place)) × (List Place)) => g_prizes_Prizes_j17 v_71 t_1 l_83 l_84 = some y1) (fun v h => ?_) ?_
  obtain ⟨l_83, l_84⟩ := v
  obtain ⟨c85, h⟩ := ckI_inv h
  refine T_regE [(zd (I ((v_71 + 1 : Nat) : Int)))] (mk 47 [(0, (dt (.sl 14 (t_1.l.map encPlace)))), (1, (.one (.fn 26 []))), (4, (ow 117)), (7, (dt (.sl 14 (t_1.l.map encPlace)))), (8, (di ((t_1.l.length : Nat) : Int))), (9, (di ((v_71 + 1 : Nat) : Int))), (45, (di ((v_71 + 1 : Nat) : Int)))] [(4, (.var [(.dat nilS)])), (117, (.nest 32 (l_83.map elL_encPlace) (.own 500117))), (500117, (.row 38 14 (l_84.map encPlace)))]) _ (by kernel_rfl) (z1 (zc c85 (z2 zt))) ?_
  exact Exists.intro (.inr (v_71 + 1, l_83, l_84)) (And.intro h (arr [] [0, 1, 4, 7, 8, 9] [] [4, 117, 500117] (by kernel_rfl)))
  refine T_block ?_
  obtain ⟨x_86, e87, e88, e89, h⟩ := gn_inv encPlace h
  refine T_reg [zn, (zd (encPlace x_86))] [0, 1, 4, 5, 6, 7, 8, 9] [] (mk 47 [(0, (dt (.sl 14 (t_1.l.map encPlace)))), (1, (.one (.fn 26 []))), (4, (ow 117)), (5, (di ((v_71 : Nat) : Int))), (6, (rf 79 0)), (7, (dt (.sl 14 (t_1.l.map encPlace)))), (8, (di ((t_1.l.length : Nat) : Int))), (9, (di ((v_71 : Nat) : Int)))] [(79, (.var (qPlace x_86))), (4, (.var [(.dat nilS)])), (117, (.nest 32 (l_72.map elL_encPlace) (.own 500117))), (500117, (.row 38 14 (l_73.map encPlace)))]) _ (by kernel_rfl) (z3 (zc e87 (z8 zt))) ?_
  refine T_seqJ (α := Bool) (fun (v_90 : Bool) => (mk 47 [(0, (dt (.sl 14 (t_1.l.map encPlace)))), (1, (.one (.fn 26 []))), (4, (ow 117)), (6, (rf 79 0)), (7, (dt (.sl 14 (t_1.l.map encPlace)))), (8, (di ((t_1.l.length : Nat) : Int))), (9, (di ((v_71 : Nat) : Int))), (25, (db (v_90)))] [(4, (.var [(.dat nilS)])), (79, (.var (qPlace x_86))), (117, (.nest 32 (l_72.map elL_encPlace) (.own 500117))), (500117, (.row 38 14 (l_73.map encPlace)))])) (fun (v_90 : Bool) => g_prizes_Prizes_j18 l_72 l_73 x_86 v_71 t_1 v_90 = some y1) (fun v_90 h => ?_) ?_
  refine T_cond (v_90) (by kernel_rfl) (fun b91 => ?_) (fun b91 => ?_)
  replace h := ite_t b91 h
  refine T_arr [] [0, 1, 4, 6, 7, 8, 9, 25] [] [4, 79, 117, 500117] (mk 47 [(0, (dt (.sl 14 (t_1.l.map encPlace)))), (1, (.one (.fn 26 []))), (4, (ow 117)), (6, (rf 79 0)), (7, (dt (.sl 14 (t_1.l.map encPlace)))), (8, (di ((t_1.l.length : Nat) : Int))), (9, (di ((v_71 : Nat) : Int))), (25, (db (v_90)))] [(4, (.var [(.dat nilS)])), (79, (.var (qPlace x_86))), (117, (.nest 32 (l_72.map elL_encPlace) (.own 500117))), (500117, (.row 38 14 (l_73.map encPlace)))]) (by kernel_rfl) ?_
  obtain ⟨c92, h⟩ := ckI_inv h
  obtain ⟨c93, h⟩ := ck_inv h
  obtain ⟨c94, h⟩ := ck_inv h
  obtain ⟨c95, h⟩ := ck_inv h
  refine T_anyV [{}, {}, { h := zd (I ((l_72.length + 1 : Nat) : Int)) }, { h := zd (I (((l_72.length + 1 : Nat) : Int) - 1)) }, {}, {}, { h := zd (I ((l_72.length + 1 : Nat) : Int)) }, { h := zd (I (((l_72.length + 1 : Nat) : Int) - 1)) }, {}, {}, {}, {}, { h := zd (.sl 14 ((l_73 ++ [x_86]).map encPlace)) }, {}, {}] _ (mk 47 [(0, (dt (.sl 14 (t_1.l.map encPlace)))), (1, (.one (.fn 26 []))), (4, (ow 117)), (6, (rf 79 0)), (7, (dt (.sl 14 (t_1.l.map encPlace)))), (8, (di ((t_1.l.length : Nat) : Int))), (9, (di ((v_71 : Nat) : Int))), (25, (db (v_90)))] [(4, (.var [(.dat nilS)])), (79, (.var (qPlace x_86))), (117, (.nest 32 (l_72.map elL_encPlace) (.own 500117))), (500117, (.row 38 14 (l_73.map encPlace)))]) [(26, [(0, (ow 117))]), (27, [(1, (ow 117))]), (28, [(2, (di ((l_72.length + 1 : Nat) : Int)))]), (29, [(3, (di (((l_72.length + 1 : Nat) : Int) - 1)))]), (30, [(4, (ow 117))]), (31, [(5, (ow 117))]), (32, [(6, (di ((l_72.length + 1 : Nat) : Int)))]), (33, [(7, (di (((l_72.length + 1 : Nat) : Int) - 1)))]), (34, [(8, (.one (.rref 117 ((((l_72.length + 1 : Nat) : Int) - 1)).toNat 0)))]), (35, [(9, (ow 500117)), (12, J)]), (36, [(10, (.agg (qPlace x_86)))]), (37, [(11, (ow 110))]), (38, [(12, (ow 111))]), (39, [(13, (.one (.rref 117 ((((l_72.length + 1 : Nat) : Int) - 1)).toNat 0)))])] [(11, 110, some (.row 38 14 ([x_86].map encPlace))), (12, 111, some (.row 38 14 ((l_73 ++ [x_86]).map encPlace))), (12, 117, some (.nest 32 (l_72.map elL_encPlace) .junk)), (12, 500117, none), (14, 117, some (.nest 32 (l_72.map elL_encPlace) (.own 111)))] [4, 79, 110, 111, 117, 500117] 15 [0, 0, 2, 4, 0, 0, 32, 64, 144, 256, 0, 1024, 2560, 8191, 16383] (.n (.n (.n (.n (.n (.n (.n (.n .e 0 .e) 1 (.n .e 2 .e)) 3 (.n (.n .e 6 .e) 7 (.n .e 14 .e))) 15 (.n (.n (.n .e 16 .e) 17 (.n .e 18 .e)) 19 (.n (.n .e 22 .e) 23 (.n .e 30 .e)))) 31 (.n (.n (.n (.n .e 32 .e) 33 (.n .e 34 .e)) 35 (.n (.n .e 38 .e) 39 (.n .e 46 .e))) 47 (.n (.n (.n .e 48 .e) 49 (.n .e 50 .e)) 51 (.n (.n .e 54 .e) 55 (.n .e 62 .e))))) 63 (.n (.n (.n (.n (.n .e 96 .e) 97 (.n .e 98 .e)) 99 (.n (.n .e 102 .e) 103 (.n .e 110 .e))) 111 (.n (.n (.n .e 112 .e) 113 (.n .e 114 .e)) 115 (.n (.n .e 118 .e) 119 (.n .e 126 .e)))) 127 (.n (.n (.n (.n .e 224 .e) 225 (.n .e 226 .e)) 227 (.n (.n .e 230 .e) 231 (.n .e 238 .e))) 239 (.n (.n (.n .e 240 .e) 241 (.n .e 242 .e)) 243 (.n (.n .e 246 .e) 247 .e))))) 254 (.n (.n (.n (.n (.n (.n .e 255 .e) 496 (.n .e 497 .e)) 498 (.n (.n .e 499 .e) 502 (.n .e 503 .e))) 510 (.n (.n (.n .e 511 .e) 1008 (.n .e 1009 .e)) 1010 (.n (.n .e 1011 .e) 1014 (.n .e 1015 .e)))) 1022 (.n (.n (.n (.n .e 1023 .e) 1024 (.n .e 1025 .e)) 1026 (.n (.n .e 1027 .e) 1030 (.n .e 1031 .e))) 1038 (.n (.n (.n .e 1039 .e) 1040 (.n .e 1041 .e)) 1042 (.n (.n .e 1043 .e) 1046 (.n .e 1047 .e))))) 1054 (.n (.n (.n (.n (.n .e 1055 .e) 1056 (.n .e 1057 .e)) 1058 (.n (.n .e 1059 .e) 1062 (.n .e 1063 .e))) 1070 (.n (.n (.n .e 1071 .e) 1072 (.n .e 1073 .e)) 1074 (.n (.n .e 1075 .e) 1078 (.n .e 1079 .e)))) 1086 (.n (.n (.n (.n .e 1087 .e) 1120 (.n .e 1121 .e)) 1122 (.n (.n .e 1123 .e) 1126 (.n .e 1127 .e))) 1134 (.n (.n (.n .e 1135 .e) 1136 (.n .e 1137 .e)) 1138 (.n (.n .e 1139 .e) 1142 .e)))))) 1143 (.n (.n (.n (.n (.n (.n (.n .e 1150 .e) 1151 (.n .e 1248 .e)) 1249 (.n (.n .e 1250 .e) 1251 (.n .e 1254 .e))) 1255 (.n (.n (.n .e 1262 .e) 1263 (.n .e 1264 .e)) 1265 (.n (.n .e 1266 .e) 1267 (.n .e 1270 .e)))) 1271 (.n (.n (.n (.n .e 1278 .e) 1279 (.n .e 1520 .e)) 1521 (.n (.n .e 1522 .e) 1523 (.n .e 1526 .e))) 1527 (.n (.n (.n .e 1534 .e) 1535 (.n .e 2032 .e)) 2033 (.n (.n .e 2034 .e) 2035 (.n .e 2038 .e))))) 2039 (.n (.n (.n (.n (.n .e 2046 .e) 2047 (.n .e 3072 .e)) 3073 (.n (.n .e 3074 .e) 3075 (.n .e 3078 .e))) 3079 (.n (.n (.n .e 3086 .e) 3087 (.n .e 3088 .e)) 3089 (.n (.n .e 3090 .e) 3091 (.n .e 3094 .e)))) 3095 (.n (.n (.n (.n .e 3102 .e) 3103 (.n .e 3104 .e)) 3105 (.n (.n .e 3106 .e) 3107 (.n .e 3110 .e))) 3111 (.n (.n (.n .e 3118 .e) 3119 (.n .e 3120 .e)) 3121 (.n (.n .e 3122 .e) 3123 .e))))) 3126 (.n (.n (.n (.n (.n (.n .e 3127 .e) 3134 (.n .e 3135 .e)) 3168 (.n (.n .e 3169 .e) 3170 (.n .e 3171 .e))) 3174 (.n (.n (.n .e 3175 .e) 3182 (.n .e 3183 .e)) 3184 (.n (.n .e 3185 .e) 3186 (.n .e 3187 .e)))) 3190 (.n (.n (.n (.n .e 3191 .e) 3198 (.n .e 3199 .e)) 3296 (.n (.n .e 3297 .e) 3298 (.n .e 3299 .e))) 3302 (.n (.n (.n .e 3303 .e) 3310 (.n .e 3311 .e)) 3312 (.n (.n .e 3313 .e) 3314 .e)))) 3315 (.n (.n (.n (.n (.n .e 3318 .e) 3319 (.n .e 3326 .e)) 3327 (.n (.n .e 3568 .e) 3569 (.n .e 3570 .e))) 3571 (.n (.n (.n .e 3574 .e) 3575 (.n .e 3582 .e)) 3583 (.n (.n .e 4080 .e) 4081 (.n .e 4082 .e)))) 4083 (.n (.n (.n (.n .e 4086 .e) 4087 (.n .e 4094 .e)) 4095 (.n (.n .e 8176 .e) 8177 (.n .e 8178 .e))) 8179 (.n (.n (.n .e 8182 .e) 8183 (.n .e 8190 .e)) 8191 (.n (.n .e 16383 .e) 32767 .e))))))) [[0, 1, 2, 3, 6, 7, 14, 15, 16, 17, 18, 19, 22, 23, 30, 31, 32, 33, 34, 35, 38, 39, 46, 47, 48, 49, 50, 51, 54, 55, 62, 63, 96, 97, 98, 99, 102, 103, 110, 111], [112, 113, 114, 115, 118, 119, 126, 127, 224, 225, 226, 227, 230, 231, 238, 239, 240, 241, 242, 243, 246, 247, 254, 255, 496, 497, 498, 499, 502, 503, 510, 511, 1008, 1009, 1010, 1011, 1014, 1015, 1022, 1023], [1024, 1025, 1026, 1027, 1030, 1031, 1038, 1039, 1040, 1041, 1042, 1043, 1046, 1047, 1054, 1055, 1056, 1057, 1058, 1059, 1062, 1063, 1070, 1071, 1072, 1073, 1074, 1075, 1078, 1079, 1086, 1087, 1120, 1121, 1122, 1123, 1126, 1127, 1134, 1135], [1136, 1137, 1138, 1139, 1142, 1143, 1150, 1151, 1248, 1249, 1250, 1251, 1254, 1255, 1262, 1263, 1264, 1265, 1266, 1267, 1270, 1271, 1278, 1279, 1520, 1521, 1522, 1523, 1526, 1527, 1534, 1535, 2032, 2033, 2034, 2035, 2038, 2039, 2046, 2047], [3072, 3073, 3074, 3075, 3078, 3079, 3086, 3087, 3088, 3089, 3090, 3091, 3094, 3095, 3102, 3103, 3104, 3105, 3106, 3107, 3110, 3111, 3118, 3119, 3120, 3121, 3122, 3123, 3126, 3127, 3134, 3135, 3168, 3169, 3170, 3171, 3174, 3175, 3182, 3183], [3184, 3185, 3186, 3187, 3190, 3191, 3198, 3199, 3296, 3297, 3298, 3299, 3302, 3303, 3310, 3311, 3312, 3313, 3314, 3315, 3318, 3319, 3326, 3327, 3568, 3569, 3570, 3571, 3574, 3575, 3582, 3583, 4080, 4081, 4082, 4083, 4086, 4087, 4094, 4095], [8176, 8177, 8178, 8179, 8182, 8183, 8190, 8191, 16383, 32767]] (mk 47 [(0, (dt (.sl 14 (t_1.l.map encPlace)))), (1, (.one (.fn 26 []))), (4, (ow 117)), (6, (rf 79 0)), (7, (dt (.sl 14 (t_1.l.map encPlace)))), (8, (di ((t_1.l.length : Nat) : Int))), (9, (di ((v_71 : Nat) : Int))), (25, (db (v_90))), (26, (ow 117)), (27, (ow 117)), (28, (di ((l_72.length + 1 : Nat) : Int))), (29, (di (((l_72.length + 1 : Nat) : Int) - 1))), (30, (ow 117)), (31, (ow 117)), (32, (di ((l_72.length + 1 : Nat) : Int))), (33, (di (((l_72.length + 1 : Nat) : Int) - 1))), (34, (.one (.rref 117 ((((l_72.length + 1 : Nat) : Int) - 1)).toNat 0))), (36, (.agg (qPlace x_86))), (37, (ow 110)), (38, (ow 111)), (39, (.one (.rref 117 ((((l_72.length + 1 : Nat) : Int) - 1)).toNat 0)))] [(4, (.var [(.dat nilS)])), (79, (.var (qPlace x_86))), (110, (.row 38 14 ([x_86].map encPlace))), (111, (.row 38 14 ((l_73 ++ [x_86]).map encPlace))), (117, (.nest 32 (l_72.map elL_encPlace) (.own 111)))]) (by kernel_rfl) (by decide) (by kernel_rfl) (by kernel_rfl) (by kernel_rfl) (by kernel_rfl) (by kernel_rfl) (by kernel_rfl) (zs (And.intro (by kernel_rfl) (by as_aux_lemma => kernel_rfl)) (zs (And.intro (by kernel_rfl) (by as_aux_lemma => kernel_rfl)) (zs (And.intro (by kernel_rfl) (by as_aux_lemma => kernel_rfl)) (zs (And.intro (by kernel_rfl) (by as_aux_lemma => kernel_rfl)) (zs (And.intro (by kernel_rfl) (by as_aux_lemma => kernel_rfl)) (zs (And.intro (by kernel_rfl) (by as_aux_lemma => kernel_rfl)) (zs (And.intro (by kernel_rfl) (by as_aux_lemma => kernel_rfl)) zS))))))) (zs (zc zt zt) (zs (zc zt zt) (zs (zc zt (lenn_s elL_encPlace l_72)) (zs (zc zt c92) (zs (zc zt zt) (zs (zc zt zt) (zs (zc zt (lenn_s elL_encPlace l_72)) (zs (zc zt c92) (zs (zc zt (nb_s elL_encPlace c93)) (zs (zc zt (nl_s elL_encPlace c94)) (zs (zc zt zt) (zs (zc zt (show dfill (fun i => some (i * 14, 14)) (List.replicate (1 * 14) .junk) [(0, [(.dat (I x_86.k)), (.dat (I x_86.b)), (.dat (.str x_86.z)), (.dat (I x_86.r.c)), (.dat (I x_86.r.pl)), (.dat (I x_86.r.wo)), (.dat (I x_86.r.dr)), (.dat (I x_86.r.lo)), (.dat (I x_86.r.fo)), (.dat (I x_86.r.ag)), (.dat (I x_86.r.af)), (.dat (I x_86.r.aw)), (.dat (I x_86.r.ca)), (.dat (I x_86.r.po))])] = some ((flat ([x_86].map encPlace)).map .dat) from rfl)) (zs (zc zt (app_s encPlace encPlace_one l_73 ([x_86]) c95)) (zs (zc zt (nb_s elL_encPlace c93)) (zs (zc zt (nl_s elL_encPlace c94)) zS))))))))))))))) (by kernel_rfl) ?_
  exact Exists.intro (l_72, (l_73 ++ [x_86])) (And.intro h (arr [.ren 111 500117] [0, 1, 4, 7, 8, 9] [79, 110] [4, 117, 500117] (by kernel_rfl)))
  replace h := ite_f b91 h
  refine T_parts ?_
  refine TL_part 3 [] (mk 47 [(0, (dt (.sl 14 (t_1.l.map encPlace)))), (1, (.one (.fn 26 []))), (4, (ow 117)), (6, (rf 79 0)), (7, (dt (.sl 14 (t_1.l.map encPlace)))), (8, (di ((t_1.l.length : Nat) : Int))), (9, (di ((v_71 : Nat) : Int))), (25, (db (v_90))), (40, (ow 117)), (41, (.agg (qPlace x_86))), (42, (ow 115))] [(115, (.row 38 14 ([x_86].map encPlace))), (4, (.var [(.dat nilS)])), (79, (.var (qPlace x_86))), (117, (.nest 32 (l_72.map elL_encPlace) (.own 500117))), (500117, (.row 38 14 (l_73.map encPlace)))]) _ (by kernel_rfl) (z5 (zc (show dfill (fun i => some (i * 14, 14)) (List.replicate (1 * 14) .junk) [(0, [(.dat (I x_86.k)), (.dat (I x_86.b)), (.dat (.str x_86.z)), (.dat (I x_86.r.c)), (.dat (I x_86.r.pl)), (.dat (I x_86.r.wo)), (.dat (I x_86.r.dr)), (.dat (I x_86.r.lo)), (.dat (I x_86.r.fo)), (.dat (I x_86.r.ag)), (.dat (I x_86.r.af)), (.dat (I x_86.r.aw)), (.dat (I x_86.r.ca)), (.dat (I x_86.r.po))])] = some ((flat ([x_86].map encPlace)).map .dat) from rfl) zt)) rfl ?_
  refine TL_nest1 74 32 43 116 115 38 14 ([x_86].map encPlace) rfl rfl rfl (by kernel_rfl) (by kernel_rfl) (by kernel_rfl) (by kernel_rfl) (by decide) (by decide) ?_
  refine TL_turn [] [0, 1, 4, 7, 8, 9, 40, 43] [79] (mk 47 [(0, (dt (.sl 14 (t_1.l.map encPlace)))), (1, (.one (.fn 26 []))), (4, (ow 117)), (7, (dt (.sl 14 (t_1.l.map encPlace)))), (8, (di ((t_1.l.length : Nat) : Int))), (9, (di ((v_71 : Nat) : Int))), (40, (ow 117)), (43, (ow 116))] [(116, (.nest 32 (([] : List (List Place)).map elL_encPlace) (.own 115))), (115, (.row 38 14 ([x_86].map encPlace))), (4, (.var [(.dat nilS)])), (117, (.nest 32 (l_72.map elL_encPlace) (.own 500117))), (500117, (.row 38 14 (l_73.map encPlace)))]) (by kernel_rfl) ?_
  refine TL_turn [500117] [0, 1, 4, 7, 8, 9, 40, 43] [] (mk 47 [(0, (dt (.sl 14 (t_1.l.map encPlace)))), (1, (.one (.fn 26 []))), (4, (ow 117)), (7, (dt (.sl 14 (t_1.l.map encPlace)))), (8, (di ((t_1.l.length : Nat) : Int))), (9, (di ((v_71 : Nat) : Int))), (40, (ow 117)), (43, (ow 116))] [(116, (.nest 32 (([] : List (List Place)).map elL_encPlace) (.own 115))), (115, (.row 38 14 ([x_86].map encPlace))), (4, (.var [(.dat nilS)])), (117, (.nest 32 (l_72.map elL_encPlace) (.dat (.sl 14 (l_73.map encPlace)))))]) (by kernel_rfl) ?_
  obtain ⟨c96, h⟩ := ck_inv h
  refine TL_nestApp 74 32 24 44 117 (some 117) (l_72.map elL_encPlace ++ [(.sl 14 (l_73.map encPlace))]) 116 (.own 115) rfl rfl rfl (by kernel_rfl) (by kernel_rfl) (by decide) (by kernel_rfl) (by kernel_rfl) (by kernel_rfl) (by kernel_rfl) (by simp only [List.length_append, List.length_map, List.length_singleton]; exact c96) (by decide) ?_
  refine TL_turn [] [0, 1, 7, 8, 9, 43, 44] [] (mk 47 [(0, (dt (.sl 14 (t_1.l.map encPlace)))), (1, (.one (.fn 26 []))), (7, (dt (.sl 14 (t_1.l.map encPlace)))), (8, (di ((t_1.l.length : Nat) : Int))), (9, (di ((v_71 : Nat) : Int))), (43, (ow 116)), (44, (ow 117))] [(117, (.nest 32 ((l_72 ++ [l_73]).map elL_encPlace) (.own 115))), (116, (.nest 32 (([] : List (List Place)).map elL_encPlace) (.own 115))), (115, (.row 38 14 ([x_86].map encPlace))), (4, (.var [(.dat nilS)]))]) (by rw [show (l_72 ++ [l_73]).map elL_encPlace = (l_72.map elL_encPlace ++ [(.sl 14 (l_73.map encPlace))]) from by simp only [List.map_append, List.map_cons, List.map_nil]; rfl]; kernel_rfl) ?_
  refine TL_turn [] [0, 1, 7, 8, 9, 44] [116] (mk 47 [(0, (dt (.sl 14 (t_1.l.map encPlace)))), (1, (.one (.fn 26 []))), (7, (dt (.sl 14 (t_1.l.map encPlace)))), (8, (di ((t_1.l.length : Nat) : Int))), (9, (di ((v_71 : Nat) : Int))), (44, (ow 117))] [(117, (.nest 32 ((l_72 ++ [l_73]).map elL_encPlace) (.own 115))), (115, (.row 38 14 ([x_86].map encPlace))), (4, (.var [(.dat nilS)]))]) (by kernel_rfl) ?_
  refine TL_part 1 [] (mk 47 [(0, (dt (.sl 14 (t_1.l.map encPlace)))), (1, (.one (.fn 26 []))), (4, (ow 117)), (7, (dt (.sl 14 (t_1.l.map encPlace)))), (8, (di ((t_1.l.length : Nat) : Int))), (9, (di ((v_71 : Nat) : Int))), (44, (ow 117))] [(117, (.nest 32 ((l_72 ++ [l_73]).map elL_encPlace) (.own 115))), (115, (.row 38 14 ([x_86].map encPlace))), (4, (.var [(.dat nilS)]))]) _ (by kernel_rfl) (z2 zt) rfl ?_
  refine TL_nilQ ?_
  exact Exists.intro ((l_72 ++ [l_73]), [x_86]) (And.intro h (arr [.ren 115 500117] [0, 1, 4, 7, 8, 9] [] [4, 117, 500117] (by kernel_rfl)))
  rcases Bool.eq_false_or_eq_true (decide (((v_71 : Nat) : Int) > 0)) with b97 | b97
  replace h := ite_t b97 h
  obtain ⟨c98, h⟩ := ckI_inv h
  obtain ⟨x_99, e100, e101, e102, h⟩ := gt_inv encPlace h
  obtain ⟨r_103, e104, h⟩ := bd_inv h
  exact T_regJD 12 (hl 12 [(6, (zd (I (((v_71 : Nat) : Int) - 1)))), (7, (zd (encPlace x_99))), (10, (zd (B (r_103)))), (11, (zd (B true)))]) [] [0, 1, 4, 6, 7, 8, 9, 25] [] [4, 79, 117, 500117] _ _ (by kernel_rfl) (by kernel_rfl) (by kernel_rfl) (zc (z6 (zc (gd_tt b97) (z1 (zc (gd_tt b97) (z1 (zc (gd_tt b97) (z1 (zc (gd_tt b97) (zc c98 (zc (gd_tt b97) (zc e100 (zc (gd_tt b97) (z1 (zc (gd_tt b97) (z1 (zc (gd_tt b97) (zc (g_prizes_Prizes_2_ret e104) (z1 (zc b97 zt))))))))))))))))))) zt) (fun s hs => Exists.intro (r_103) (And.intro h hs))
  replace h := ite_f b97 h
  exact T_regJD 12 [zn, zn, zn, zg, zg, zg, zg, zg, zg, zg, zg, (zd (B false))] [] [0, 1, 4, 6, 7, 8, 9, 25] [] [4, 79, 117, 500117] _ _ (by kernel_rfl) (by kernel_rfl) (by kernel_rfl) (zc (z6 (zc (gd_ft b97) (zc (gd_ft b97) (zc (gd_ft b97) (zc (gd_ft b97) (zc (gd_ft b97) (zc (gd_ft b97) (zc (gd_ft b97) (zc (gd_ft b97) (z1 (zc b97 zt))))))))))) zt) (fun s hs => Exists.intro false (And.intro h hs))
  replace h := ite_f b82 h
  refine T_exit ?_
  replace h := up_inv h hy1
  exact Exists.intro (.inr (l_72, l_73)) (And.intro h (arr [] [4] [] [4, 117, 500117] (by kernel_rfl)))

end Go.Proofs.Ytoiiblkncbnlaaa
