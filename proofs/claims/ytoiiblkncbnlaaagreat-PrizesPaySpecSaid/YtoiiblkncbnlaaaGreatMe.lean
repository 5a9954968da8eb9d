/-
  Texts that belong together, one behind the other; what each of them proves, and under which conditions, its own heading says.
-/
import Derived.Test.YtoiiblkncbnlaaaGreatRows
import Derived.Test.YtoiiblkncbnlaaaGreatMd
/-
  Go functions as partial functions, printed by auto.py: what each returns when its partial function has a value. Conditions: those of each theorem.
-/
namespace Go.Proofs.YtoiiblkncbnlaaaGreat
open Go.DL
set_option maxRecDepth 100000
set_option maxHeartbeats 4000000
set_option linter.unusedVariables false
set_option linter.unusedSimpArgs false
theorem g_prizes_Next_ret {tables_1 : List Tab} {schemes_2 : List Sch} {comp_3 : Int} {r : (List Int) × Int} (h : g_prizes_Next tables_1 schemes_2 comp_3 = some r) : Ret Tryz.prog 20 [(.sl 3 (tables_1.map encTab)), (.sl 6 (schemes_2.map encSch)), (I comp_3)] (.tup [(.sl 1 (r.1.map elI)), (I r.2)]) := by
  refine Ret.of_T Tryz.func20 (by kernel_rfl) rfl ?_
  refine T_turn [] [0, 1, 2] [] (mk 163 [(0, (dt (.sl 3 (tables_1.map encTab)))), (1, (dt (.sl 6 (schemes_2.map encSch)))), (2, (di comp_3))] []) (by kernel_rfl) ?_
  refine T_reg [] [0, 1, 2] [] (mk 163 [(0, (dt (.sl 3 (tables_1.map encTab)))), (1, (dt (.sl 6 (schemes_2.map encSch)))), (2, (di comp_3))] []) _ (by kernel_rfl) (z4 zt) ?_
  obtain ⟨r_4, e5, h⟩ := bd_inv h
  refine T_reg [zn, zn, zn, (zd (.tup [(encLeague r_4.1), (B (r_4.2))]))] [0, 1, 2, 8, 9] [] (mk 163 [(0, (dt (.sl 3 (tables_1.map encTab)))), (1, (dt (.sl 6 (schemes_2.map encSch)))), (2, (di comp_3)), (8, (rf 8 0)), (9, (db (r_4.2)))] [(8, (.var (qLeague r_4.1)))]) _ (by kernel_rfl) (z7 (zc (g_prizes_of_ret e5) (z8 (z4 zt)))) ?_
  refine T_seq ?_
  refine T_reg [] [0, 1, 2, 8, 33] [] (mk 163 [(0, (dt (.sl 3 (tables_1.map encTab)))), (1, (dt (.sl 6 (schemes_2.map encSch)))), (2, (di comp_3)), (8, (rf 8 0)), (33, (db (!(r_4.2))))] [(8, (.var (qLeague r_4.1)))]) _ (by kernel_rfl) (z4 zt) ?_
  refine T_cond (!(r_4.2)) (by kernel_rfl) (fun b6 => ?_) (fun b6 => ?_)
  replace h := ite_t b6 h
  refine T_reg [] [6, 7] [8] (mk 163 [(6, (dt nilS)), (7, (di 420))] []) _ (by kernel_rfl) (z4 zt) ?_
  refine T_ret ?_
  obtain rfl := some_inv h
  exact ret_here [(dt nilS), (di 420)] (by kernel_rfl) ⟨(.inr ⟨rfl, 1, rfl⟩), (.inl rfl), trivial⟩
  replace h := ite_f b6 h
  refine T_skip ?_
  obtain ⟨r_7, e8, h⟩ := bd_inv h
  refine T_reg (hl 5 [(4, (zd (.tup [(.sl 1 (r_7.1.map elI)), (.sl 1 (r_7.2.1.map elI)), (I r_7.2.2)])))]) [0, 1, 2, 7, 8, 10, 11] [] (mk 163 [(0, (dt (.sl 3 (tables_1.map encTab)))), (1, (dt (.sl 6 (schemes_2.map encSch)))), (2, (di comp_3)), (7, (di r_7.2.2)), (8, (rf 8 0)), (10, (rf 10 0)), (11, (rf 11 0))] [(11, (.var [(.dat (.sl 1 (r_7.2.1.map elI)))])), (10, (.var [(.dat (.sl 1 (r_7.1.map elI)))])), (8, (.var (qLeague r_4.1)))]) _ (by kernel_rfl) (z8 (z1 (zc (g_prizes_Moves_ret e8) (z8 (z8 (z2 zt)))))) ?_
  refine T_seq ?_
  refine T_reg [] [0, 1, 2, 7, 8, 10, 11, 44] [] (mk 163 [(0, (dt (.sl 3 (tables_1.map encTab)))), (1, (dt (.sl 6 (schemes_2.map encSch)))), (2, (di comp_3)), (7, (di r_7.2.2)), (8, (rf 8 0)), (10, (rf 10 0)), (11, (rf 11 0)), (44, (db (r_7.2.2 != 0)))] [(11, (.var [(.dat (.sl 1 (r_7.2.1.map elI)))])), (10, (.var [(.dat (.sl 1 (r_7.1.map elI)))])), (8, (.var (qLeague r_4.1)))]) _ (by kernel_rfl) (z4 zt) ?_
  refine T_cond (r_7.2.2 != 0) (by kernel_rfl) (fun b9 => ?_) (fun b9 => ?_)
  replace h := ite_t b9 h
  refine T_reg [] [6, 7] [11, 10, 8] (mk 163 [(6, (dt nilS)), (7, (di r_7.2.2))] []) _ (by kernel_rfl) (z6 zt) ?_
  refine T_ret ?_
  obtain rfl := some_inv h
  exact ret_here [(dt nilS), (di r_7.2.2)] (by kernel_rfl) ⟨(.inr ⟨rfl, 1, rfl⟩), (.inl rfl), trivial⟩
  replace h := ite_f b9 h
  refine T_skip ?_
  refine T_reg [] [0, 1, 2, 8, 10, 11, 12] [] (mk 163 [(0, (dt (.sl 3 (tables_1.map encTab)))), (1, (dt (.sl 6 (schemes_2.map encSch)))), (2, (di comp_3)), (8, (rf 8 0)), (10, (rf 10 0)), (11, (rf 11 0)), (12, (rf 12 0))] [(12, (.var [(.dat (I 0))])), (11, (.var [(.dat (.sl 1 (r_7.2.1.map elI)))])), (10, (.var [(.dat (.sl 1 (r_7.1.map elI)))])), (8, (.var (qLeague r_4.1)))]) _ (by kernel_rfl) (z4 zt) ?_
  refine T_seq (T_parts ?_)
  refine TL_makeMap 85 3 4 46 46 rfl rfl rfl (by kernel_rfl) (by decide) ?_
  refine TL_turn [] [0, 1, 2, 8, 10, 11, 12, 46] [] (mk 163 [(0, (dt (.sl 3 (tables_1.map encTab)))), (1, (dt (.sl 6 (schemes_2.map encSch)))), (2, (di comp_3)), (8, (rf 8 0)), (10, (rf 10 0)), (11, (rf 11 0)), (12, (rf 12 0)), (46, (ow 46))] [(46, (.map Tryz.prog 3 4 (mapS ([] : List Int)))), (12, (.var [(.dat (I 0))])), (11, (.var [(.dat (.sl 1 (r_7.2.1.map elI)))])), (10, (.var [(.dat (.sl 1 (r_7.1.map elI)))])), (8, (.var (qLeague r_4.1)))]) (by kernel_rfl) ?_
  refine TL_part 2 [] (mk 163 [(0, (dt (.sl 3 (tables_1.map encTab)))), (1, (dt (.sl 6 (schemes_2.map encSch)))), (2, (di comp_3)), (8, (rf 8 0)), (10, (rf 10 0)), (11, (rf 11 0)), (12, (rf 12 0)), (13, (rf 13 0)), (46, (ow 46))] [(13, (.var [(.own 46)])), (46, (.map Tryz.prog 3 4 (mapS ([] : List Int)))), (12, (.var [(.dat (I 0))])), (11, (.var [(.dat (.sl 1 (r_7.2.1.map elI)))])), (10, (.var [(.dat (.sl 1 (r_7.1.map elI)))])), (8, (.var (qLeague r_4.1)))]) _ (by kernel_rfl) (z4 zt) rfl ?_
  refine TL_nilQ ?_
  refine T_turn [] [0, 1, 2, 8, 10, 11, 12, 13] [] (mk 163 [(0, (dt (.sl 3 (tables_1.map encTab)))), (1, (dt (.sl 6 (schemes_2.map encSch)))), (2, (di comp_3)), (8, (rf 8 0)), (10, (rf 10 0)), (11, (rf 11 0)), (12, (rf 12 0)), (13, (rf 13 0))] [(13, (.var [(.own 46)])), (46, (.map Tryz.prog 3 4 (mapS ([] : List Int)))), (12, (.var [(.dat (I 0))])), (11, (.var [(.dat (.sl 1 (r_7.2.1.map elI)))])), (10, (.var [(.dat (.sl 1 (r_7.1.map elI)))])), (8, (.var (qLeague r_4.1)))]) (by kernel_rfl) ?_
  refine T_reg [] [0, 1, 2, 8, 10, 11, 12, 13, 14] [] (mk 163 [(0, (dt (.sl 3 (tables_1.map encTab)))), (1, (dt (.sl 6 (schemes_2.map encSch)))), (2, (di comp_3)), (8, (rf 8 0)), (10, (rf 10 0)), (11, (rf 11 0)), (12, (rf 12 0)), (13, (rf 13 0)), (14, (.one (.fn 46 [.inl 13, .inl 12])))] [(13, (.var [(.own 46)])), (46, (.map Tryz.prog 3 4 (mapS ([] : List Int)))), (12, (.var [(.dat (I 0))])), (11, (.var [(.dat (.sl 1 (r_7.2.1.map elI)))])), (10, (.var [(.dat (.sl 1 (r_7.1.map elI)))])), (8, (.var (qLeague r_4.1)))]) _ (by kernel_rfl) (z4 zt) ?_
  refine T_seqJ (α := Nat × (List Int)) (fun ((v_10, m_11) : Nat × (List Int)) => (mk 163 [(0, (dt (.sl 3 (tables_1.map encTab)))), (1, (dt (.sl 6 (schemes_2.map encSch)))), (2, (di comp_3)), (8, (rf 8 0)), (10, (rf 10 0)), (11, (rf 11 0)), (12, (rf 12 0)), (13, (rf 13 0)), (14, (.one (.fn 46 [.inl 13, .inl 12])))] [(8, (.var (qLeague r_4.1))), (10, (.var [(.dat (.sl 1 (r_7.1.map elI)))])), (11, (.var [(.dat (.sl 1 (r_7.2.1.map elI)))])), (12, (.var [(.dat (I ((v_10 : Nat) : Int)))])), (13, (.var [(.own 46)])), (46, (.map Tryz.prog 3 4 (mapS m_11)))])) (fun ((v_10, m_11) : Nat × (List Int)) => g_prizes_Next_j1 r_4 tables_1 schemes_2 r_7 comp_3 v_10 m_11 = some r) (fun v h => ?_) ?_
  obtain ⟨v_10, m_11⟩ := v
  refine T_seqJ (α := Nat × (List Int)) (fun ((v_12, m_13) : Nat × (List Int)) => (mk 163 [(8, (rf 8 0)), (10, (rf 10 0)), (11, (rf 11 0)), (12, (rf 12 0)), (13, (rf 13 0)), (14, (.one (.fn 46 [.inl 13, .inl 12])))] [(8, (.var (qLeague r_4.1))), (10, (.var [(.dat (.sl 1 (r_7.1.map elI)))])), (11, (.var [(.dat (.sl 1 (r_7.2.1.map elI)))])), (12, (.var [(.dat (I ((v_12 : Nat) : Int)))])), (13, (.var [(.own 46)])), (46, (.map Tryz.prog 3 4 (mapS m_13)))])) (fun ((v_12, m_13) : Nat × (List Int)) => g_prizes_Next_j2 r_4 r_7 v_12 m_13 = some r) (fun v h => ?_) ?_
  obtain ⟨v_12, m_13⟩ := v
  refine T_seq (T_parts ?_)
  refine TL_part 4 [] (mk 163 [(8, (rf 8 0)), (10, (rf 10 0)), (11, (rf 11 0)), (12, (rf 12 0)), (13, (rf 13 0)), (14, (.one (.fn 46 [.inl 13, .inl 12]))), (140, (.one (.fn 46 [.inl 13, .inl 12]))), (141, (rf 8 0)), (142, (rf 8 2)), (143, (dt (.sl 14 (r_4.1.table.l.map encPlace))))] [(8, (.var (qLeague r_4.1))), (10, (.var [(.dat (.sl 1 (r_7.1.map elI)))])), (11, (.var [(.dat (.sl 1 (r_7.2.1.map elI)))])), (12, (.var [(.dat (I ((v_12 : Nat) : Int)))])), (13, (.var [(.own 46)])), (46, (.map Tryz.prog 3 4 (mapS m_13)))]) _ (by kernel_rfl) (z8 zt) rfl ?_
  refine TL_consJ (α := List Int) (fun (l_14 : List Int) => (mk 163 [(10, (rf 10 0)), (11, (rf 11 0)), (12, (rf 12 0)), (13, (rf 13 0)), (140, (.one (.fn 46 [.inl 13, .inl 12]))), (144, (ow 179))] [(10, (.var [(.dat (.sl 1 (r_7.1.map elI)))])), (11, (.var [(.dat (.sl 1 (r_7.2.1.map elI)))])), (12, (.var [(.dat (I ((v_12 : Nat) : Int)))])), (13, (.var [(.own 46)])), (46, (.map Tryz.prog 3 4 (mapS m_13))), (179, (.row 3 1 (l_14.map elI)))])) (fun (l_14 : List Int) => g_prizes_Next_j3 r_7 v_12 m_13 l_14 = some r) (fun l_14 h => ?_) ?_
  refine TL_turn [] [10, 11, 12, 13, 140, 144] [] (mk 163 [(10, (rf 10 0)), (11, (rf 11 0)), (12, (rf 12 0)), (13, (rf 13 0)), (140, (.one (.fn 46 [.inl 13, .inl 12]))), (144, (ow 179))] [(10, (.var [(.dat (.sl 1 (r_7.1.map elI)))])), (11, (.var [(.dat (.sl 1 (r_7.2.1.map elI)))])), (12, (.var [(.dat (I ((v_12 : Nat) : Int)))])), (13, (.var [(.own 46)])), (46, (.map Tryz.prog 3 4 (mapS m_13))), (179, (.row 3 1 (l_14.map elI)))]) (by kernel_rfl) ?_
  refine TL_part 1 [] (mk 163 [(10, (rf 10 0)), (11, (rf 11 0)), (12, (rf 12 0)), (13, (rf 13 0)), (140, (.one (.fn 46 [.inl 13, .inl 12]))), (144, (ow 179)), (145, (.one (.fn 48 [.inl 10, .inl 11])))] [(10, (.var [(.dat (.sl 1 (r_7.1.map elI)))])), (11, (.var [(.dat (.sl 1 (r_7.2.1.map elI)))])), (12, (.var [(.dat (I ((v_12 : Nat) : Int)))])), (13, (.var [(.own 46)])), (46, (.map Tryz.prog 3 4 (mapS m_13))), (179, (.row 3 1 (l_14.map elI)))]) _ (by kernel_rfl) (z2 zt) rfl ?_
  refine TL_consJ (α := Nat × Nat × (List Int)) (fun ((p_15, p_16, l_17) : Nat × Nat × (List Int)) => (mk 163 [(12, (rf 12 0)), (13, (rf 13 0)), (140, (.one (.fn 46 [.inl 13, .inl 12]))), (146, (.one (.part 179 p_15 p_16)))] [(12, (.var [(.dat (I ((v_12 : Nat) : Int)))])), (13, (.var [(.own 46)])), (46, (.map Tryz.prog 3 4 (mapS m_13))), (179, (.row 3 1 (l_17.map elI)))])) (fun ((p_15, p_16, l_17) : Nat × Nat × (List Int)) => g_prizes_Next_j4 v_12 m_13 p_15 p_16 l_17 = some r) (fun v h => ?_) ?_
  obtain ⟨p_15, p_16, l_17⟩ := v
  refine TL_turn [] [12, 13, 140, 146] [] (mk 163 [(12, (rf 12 0)), (13, (rf 13 0)), (140, (.one (.fn 46 [.inl 13, .inl 12]))), (146, (.one (.part 179 p_15 p_16)))] [(12, (.var [(.dat (I ((v_12 : Nat) : Int)))])), (13, (.var [(.own 46)])), (46, (.map Tryz.prog 3 4 (mapS m_13))), (179, (.row 3 1 (l_17.map elI)))]) (by kernel_rfl) ?_
  refine TL_consJ (α := Nat × (List Int)) (fun ((v_18, m_19) : Nat × (List Int)) => (mk 163 [(12, (rf 12 0)), (13, (rf 13 0)), (147, (.tup []))] [(12, (.var [(.dat (I ((v_18 : Nat) : Int)))])), (13, (.var [(.own 46)])), (46, (.map Tryz.prog 3 4 (mapS m_19)))])) (fun ((v_18, m_19) : Nat × (List Int)) => g_prizes_Next_j5 v_18 m_19 = some r) (fun v h => ?_) ?_
  obtain ⟨v_18, m_19⟩ := v
  refine TL_turn [] [12, 13, 147] [] (mk 163 [(12, (rf 12 0)), (13, (rf 13 0)), (147, (.tup []))] [(12, (.var [(.dat (I ((v_18 : Nat) : Int)))])), (13, (.var [(.own 46)])), (46, (.map Tryz.prog 3 4 (mapS m_19)))]) (by kernel_rfl) ?_
  refine TL_nilQ ?_
  refine T_turn [] [12, 13] [] (mk 163 [(12, (rf 12 0)), (13, (rf 13 0))] [(12, (.var [(.dat (I ((v_18 : Nat) : Int)))])), (13, (.var [(.own 46)])), (46, (.map Tryz.prog 3 4 (mapS m_19)))]) (by kernel_rfl) ?_
  refine T_seq ?_
  refine T_seqJ (α := Bool) (fun (v_20 : Bool) => (mk 163 [(13, (rf 13 0)), (159, (db (v_20)))] [(13, (.var [(.own 46)])), (46, (.map Tryz.prog 3 4 (mapS m_19)))])) (fun (v_20 : Bool) => g_prizes_Next_j6 m_19 v_20 = some r) (fun v_20 h => ?_) ?_
  refine T_cond (v_20) (by kernel_rfl) (fun b21 => ?_) (fun b21 => ?_)
  replace h := ite_t b21 h
  refine T_reg [] [6, 7] [13, 46] (mk 163 [(6, (dt nilS)), (7, (di 190))] []) _ (by kernel_rfl) (z4 zt) ?_
  refine T_ret ?_
  obtain rfl := some_inv h
  exact ret_here [(dt nilS), (di 190)] (by kernel_rfl) ⟨(.inr ⟨rfl, 1, rfl⟩), (.inl rfl), trivial⟩
  replace h := ite_f b21 h
  refine T_skip ?_
  refine T_seq (T_parts ?_)
  refine TL_part 1 [] (mk 163 [(13, (rf 13 0)), (159, (db (v_20))), (160, (ow 46))] [(13, (.var [(.own 46)])), (46, (.map Tryz.prog 3 4 (mapS m_19)))]) _ (by kernel_rfl) (z2 zt) rfl ?_
  obtain ⟨c22, h⟩ := ck_inv h
  obtain ⟨c23, h⟩ := ck_inv h
  refine TL_keysS 51 50 3 4 3 keys_okS 161 162 162 46 rfl rfl (by kernel_rfl) rfl rfl rfl (by kernel_rfl) rfl (by kernel_rfl) (by kernel_rfl) m_19 (by kernel_rfl) c22 c23 (by decide) ?_
  refine TL_turn [] [162] [13, 46] (mk 163 [(162, (ow 162))] [(162, (.row 3 1 (m_19.map elI)))]) (by kernel_rfl) ?_
  refine TL_part 2 [] (mk 163 [(6, (ow 162)), (7, (di 0)), (162, (ow 162))] [(162, (.row 3 1 (m_19.map elI)))]) _ (by kernel_rfl) (z4 zt) rfl ?_
  refine TL_nilQ ?_
  refine T_turn [] [6, 7] [] (mk 163 [(6, (ow 162)), (7, (di 0))] [(162, (.row 3 1 (m_19.map elI)))]) (by kernel_rfl) ?_
  refine T_ret ?_
  obtain rfl := some_inv h
  exact ret_here [(ow 162), (di 0)] (by kernel_rfl) ⟨rfl, (.inl rfl), trivial⟩
  rcases Bool.eq_false_or_eq_true (((m_19.length : Nat) : Int) != ((v_18 : Nat) : Int)) with b24 | b24
  replace h := ite_t b24 h
  exact T_regJ [zn, (zd (I ((m_19.length : Nat) : Int))), zn, zn, zn, zg, zg, (zd (B true)), zn, zg, zg, (zd (B true))] [] [13, 159] [12] [13, 46] _ _ (by kernel_rfl) (z3 (zc (And.intro (And.intro (rfl : Tryz.prog = Tryz.prog) (show Tryz.prog.underlying 85 = some (.map 3 4) by kernel_rfl)) (lenS m_19)) (z6 (zc (gd_tf b24) (zc (gd_tf b24) (z1 (zc b24 (z2 (zc (gd_tf (rfl : true = true)) (zc (gd_tf (rfl : true = true)) (z1 (zc (rfl : true = true) zt)))))))))))) (fun s hs => Exists.intro true (And.intro h hs))
  replace h := ite_f b24 h
  rcases Bool.eq_false_or_eq_true (decide (((v_18 : Nat) : Int) < 2)) with b25 | b25
  replace h := ite_t b25 h
  exact T_regJ [zn, (zd (I ((m_19.length : Nat) : Int))), zn, zn, zn, zn, zn, (zd (B false)), zn, zg, zg, (zd (B true))] [] [13, 159] [12] [13, 46] _ _ (by kernel_rfl) (z3 (zc (And.intro (And.intro (rfl : Tryz.prog = Tryz.prog) (show Tryz.prog.underlying 85 = some (.map 3 4) by kernel_rfl)) (lenS m_19)) (z6 (zc (gd_ff b24) (z1 (zc (gd_ff b24) (z2 (zc b24 (z2 (zc (gd_tf b25) (zc (gd_tf b25) (z1 (zc b25 zt))))))))))))) (fun s hs => Exists.intro true (And.intro h hs))
  replace h := ite_f b25 h
  exact T_regJ (hl 12 [(1, (zd (I ((m_19.length : Nat) : Int)))), (7, (zd (B false))), (11, (zd (B false)))]) [] [13, 159] [12] [13, 46] _ _ (by kernel_rfl) (z3 (zc (And.intro (And.intro (rfl : Tryz.prog = Tryz.prog) (show Tryz.prog.underlying 85 = some (.map 3 4) by kernel_rfl)) (lenS m_19)) (z6 (zc (gd_ff b24) (z1 (zc (gd_ff b24) (z2 (zc b24 (z2 (zc (gd_ff b25) (z1 (zc (gd_ff b25) (z2 (zc b25 zt)))))))))))))) (fun s hs => Exists.intro (decide (((v_18 : Nat) : Int) > 24)) (And.intro h hs))
  refine TL_inline 180 46 [.inl 13, .inl 12] Tryz.f46 _ rfl rfl (by kernel_rfl) Tryz.func46 rfl rfl (by decide) ?_
  refine T_turn [] [0, 1, 2] [] (mk 17 [(0, (.one (.part 179 p_15 p_16))), (1, (rf 13 0)), (2, (rf 12 0))] [(12, (.var [(.dat (I ((v_12 : Nat) : Int)))])), (13, (.var [(.own 46)])), (46, (.map Tryz.prog 3 4 (mapS m_13))), (179, (.row 3 1 (l_17.map elI)))]) (by kernel_rfl) ?_
  refine T_reg [] [1, 2, 6, 7, 8] [] (mk 17 [(1, (rf 13 0)), (2, (rf 12 0)), (6, (.one (.part 179 p_15 p_16))), (7, (di ((p_16 : Nat) : Int))), (8, (di 0))] [(12, (.var [(.dat (I ((v_12 : Nat) : Int)))])), (13, (.var [(.own 46)])), (46, (.map Tryz.prog 3 4 (mapS m_13))), (179, (.row 3 1 (l_17.map elI)))]) _ (by kernel_rfl) (z6 zt) ?_
  refine T_block ?_
  refine T_arr [] [1, 2, 6, 7, 8] [] [12, 13, 46, 179] _ (by kernel_rfl) (T_loopO (σ := Nat × Nat × (List Int)) (fun ((v_26, v_27, m_28) : Nat × Nat × (List Int)) => (mk 17 [(1, (rf 13 0)), (2, (rf 12 0)), (6, (.one (.part 179 p_15 p_16))), (7, (di ((p_16 : Nat) : Int))), (8, (di ((v_26 : Nat) : Int)))] [(12, (.var [(.dat (I ((v_27 : Nat) : Int)))])), (13, (.var [(.own 46)])), (46, (.map Tryz.prog 3 4 (mapS m_28))), (179, (.row 3 1 (l_17.map elI)))])) (g_prizes_Next_l7 p_16 l_17 p_15) (0, v_12, m_13) h (fun v y1 hy1 h => ?_))
  obtain ⟨v_26, v_27, m_28⟩ := v
  refine T_reg [] [1, 2, 6, 7, 8, 9] [] (mk 17 [(1, (rf 13 0)), (2, (rf 12 0)), (6, (.one (.part 179 p_15 p_16))), (7, (di ((p_16 : Nat) : Int))), (8, (di ((v_26 : Nat) : Int))), (9, (db (decide (((v_26 : Nat) : Int) < ((p_16 : Nat) : Int)))))] [(12, (.var [(.dat (I ((v_27 : Nat) : Int)))])), (13, (.var [(.own 46)])), (46, (.map Tryz.prog 3 4 (mapS m_28))), (179, (.row 3 1 (l_17.map elI)))]) _ (by kernel_rfl) (z2 zt) ?_
  refine T_seq ?_
  refine T_cond (decide (((v_26 : Nat) : Int) < ((p_16 : Nat) : Int))) (by kernel_rfl) (fun b32 => ?_) (fun b32 => ?_)
  replace h := ite_t b32 h
  refine T_skip ?_
  refine T_seq ?_
  refine T_block ?_
  obtain ⟨c33, h⟩ := ck_inv h
  obtain ⟨x_34, e35, e36, e37, h⟩ := gn_inv elI h
  refine T_reg [zn, (zd (I x_34))] [1, 2, 5, 6, 7, 8] [] (mk 17 [(1, (rf 13 0)), (2, (rf 12 0)), (5, (di x_34)), (6, (.one (.part 179 p_15 p_16))), (7, (di ((p_16 : Nat) : Int))), (8, (di ((v_26 : Nat) : Int)))] [(12, (.var [(.dat (I ((v_27 : Nat) : Int)))])), (13, (.var [(.own 46)])), (46, (.map Tryz.prog 3 4 (mapS m_28))), (179, (.row 3 1 (l_17.map elI)))]) _ (by kernel_rfl) (z1 (zc c33 (z1 (zc e37 (z2 zt))))) ?_
  refine T_seq (T_parts ?_)
  refine TL_part 2 [] (mk 17 [(1, (rf 13 0)), (2, (rf 12 0)), (5, (di x_34)), (6, (.one (.part 179 p_15 p_16))), (7, (di ((p_16 : Nat) : Int))), (8, (di ((v_26 : Nat) : Int))), (12, (ow 46)), (13, (di x_34))] [(12, (.var [(.dat (I ((v_27 : Nat) : Int)))])), (13, (.var [(.own 46)])), (46, (.map Tryz.prog 3 4 (mapS m_28))), (179, (.row 3 1 (l_17.map elI)))]) _ (by kernel_rfl) (z4 zt) rfl ?_
  obtain ⟨c38, h⟩ := ckI_in h
  obtain ⟨c39, h⟩ := ck_inv h
  refine TL_setPut 85 3 4 46 _ _ _ m_28 x_34 rfl rfl (by kernel_rfl) (by kernel_rfl) (by kernel_rfl) (by kernel_rfl) (by kernel_rfl) (by kernel_rfl) (by kernel_rfl) c38 c39 ?_
  refine TL_turn [] [1, 2, 6, 7, 8] [] (mk 17 [(1, (rf 13 0)), (2, (rf 12 0)), (6, (.one (.part 179 p_15 p_16))), (7, (di ((p_16 : Nat) : Int))), (8, (di ((v_26 : Nat) : Int)))] [(12, (.var [(.dat (I ((v_27 : Nat) : Int)))])), (13, (.var [(.own 46)])), (46, (.map Tryz.prog 3 4 (mapS (sput m_28 x_34)))), (179, (.row 3 1 (l_17.map elI)))]) (by kernel_rfl) ?_
  refine TL_nilQ ?_
  refine T_turn [] [1, 2, 6, 7, 8] [] (mk 17 [(1, (rf 13 0)), (2, (rf 12 0)), (6, (.one (.part 179 p_15 p_16))), (7, (di ((p_16 : Nat) : Int))), (8, (di ((v_26 : Nat) : Int)))] [(12, (.var [(.dat (I ((v_27 : Nat) : Int)))])), (13, (.var [(.own 46)])), (46, (.map Tryz.prog 3 4 (mapS (sput m_28 x_34)))), (179, (.row 3 1 (l_17.map elI)))]) (by kernel_rfl) ?_
  obtain ⟨c40, h⟩ := ckI_inv h
  refine T_regE [zn, (zd (I ((v_27 + 1 : Nat) : Int)))] (mk 17 [(1, (rf 13 0)), (2, (rf 12 0)), (6, (.one (.part 179 p_15 p_16))), (7, (di ((p_16 : Nat) : Int))), (8, (di ((v_26 : Nat) : Int))), (14, (di ((v_27 : Nat) : Int))), (15, (di ((v_27 + 1 : Nat) : Int)))] [(12, (.var [(.dat (I ((v_27 + 1 : Nat) : Int)))])), (13, (.var [(.own 46)])), (46, (.map Tryz.prog 3 4 (mapS (sput m_28 x_34)))), (179, (.row 3 1 (l_17.map elI)))]) _ (by kernel_rfl) (z3 (zc c40 (z2 zt))) ?_
  obtain ⟨c41, h⟩ := ckI_inv h
  exact T_regJ [(zd (I ((v_26 + 1 : Nat) : Int)))] [] [1, 2, 6, 7, 8] [] [12, 13, 46, 179] _ _ (by kernel_rfl) (z1 (zc c41 (z2 zt))) (fun s hs => Exists.intro (v_26 + 1, v_27 + 1, (sput m_28 x_34)) (And.intro h hs))
  replace h := ite_f b32 h
  refine T_exit ?_
  replace h := up_inv h hy1
  refine ⟨[], by kernel_rfl, ?_⟩
  refine TL_nilQ ?_
  exact Exists.intro (v_27, m_28) (And.intro h (arr [] [12, 13, 147] [179] [12, 13, 46] (by kernel_rfl)))
  refine TL_inline 180 47 [] Tryz.f47 _ rfl rfl (by kernel_rfl) Tryz.func47 rfl rfl (by decide) ?_
  refine T_turn [] [0, 1] [] (mk 42 [(0, (ow 179)), (1, (.one (.fn 48 [.inl 10, .inl 11])))] [(10, (.var [(.dat (.sl 1 (r_7.1.map elI)))])), (11, (.var [(.dat (.sl 1 (r_7.2.1.map elI)))])), (12, (.var [(.dat (I ((v_12 : Nat) : Int)))])), (13, (.var [(.own 46)])), (46, (.map Tryz.prog 3 4 (mapS m_13))), (179, (.row 3 1 (l_14.map elI)))]) (by kernel_rfl) ?_
  refine T_reg [] [0, 1] [] (mk 42 [(0, (ow 179)), (1, (.one (.fn 48 [.inl 10, .inl 11])))] [(10, (.var [(.dat (.sl 1 (r_7.1.map elI)))])), (11, (.var [(.dat (.sl 1 (r_7.2.1.map elI)))])), (12, (.var [(.dat (I ((v_12 : Nat) : Int)))])), (13, (.var [(.own 46)])), (46, (.map Tryz.prog 3 4 (mapS m_13))), (179, (.row 3 1 (l_14.map elI)))]) _ (by kernel_rfl) (z2 zt) ?_
  refine T_seq (T_parts ?_)
  refine TL_part 2 [] (mk 42 [(0, (ow 179)), (1, (.one (.fn 48 [.inl 10, .inl 11]))), (8, (ow 179)), (9, (.one (.fn 48 [.inl 10, .inl 11])))] [(10, (.var [(.dat (.sl 1 (r_7.1.map elI)))])), (11, (.var [(.dat (.sl 1 (r_7.2.1.map elI)))])), (12, (.var [(.dat (I ((v_12 : Nat) : Int)))])), (13, (.var [(.own 46)])), (46, (.map Tryz.prog 3 4 (mapS m_13))), (179, (.row 3 1 (l_14.map elI)))]) _ (by kernel_rfl) (z4 zt) rfl ?_
  refine TL_consJ (α := Int) (fun (v_42 : Int) => (mk 42 [(0, (ow 179)), (1, (.one (.fn 48 [.inl 10, .inl 11]))), (10, (di v_42))] [(10, (.var [(.dat (.sl 1 (r_7.1.map elI)))])), (11, (.var [(.dat (.sl 1 (r_7.2.1.map elI)))])), (12, (.var [(.dat (I ((v_12 : Nat) : Int)))])), (13, (.var [(.own 46)])), (46, (.map Tryz.prog 3 4 (mapS m_13))), (179, (.row 3 1 (l_14.map elI)))])) (fun (v_42 : Int) => g_prizes_Next_j8 v_12 m_13 l_14 r_7 v_42 = some r) (fun v_42 h => ?_) ?_
  refine TL_turn [] [0, 1, 10] [] (mk 42 [(0, (ow 179)), (1, (.one (.fn 48 [.inl 10, .inl 11]))), (10, (di v_42))] [(10, (.var [(.dat (.sl 1 (r_7.1.map elI)))])), (11, (.var [(.dat (.sl 1 (r_7.2.1.map elI)))])), (12, (.var [(.dat (I ((v_12 : Nat) : Int)))])), (13, (.var [(.own 46)])), (46, (.map Tryz.prog 3 4 (mapS m_13))), (179, (.row 3 1 (l_14.map elI)))]) (by kernel_rfl) ?_
  refine TL_part 1 [] (mk 42 [(0, (ow 179)), (1, (.one (.fn 48 [.inl 10, .inl 11]))), (5, (di v_42)), (10, (di v_42))] [(10, (.var [(.dat (.sl 1 (r_7.1.map elI)))])), (11, (.var [(.dat (.sl 1 (r_7.2.1.map elI)))])), (12, (.var [(.dat (I ((v_12 : Nat) : Int)))])), (13, (.var [(.own 46)])), (46, (.map Tryz.prog 3 4 (mapS m_13))), (179, (.row 3 1 (l_14.map elI)))]) _ (by kernel_rfl) (z2 zt) rfl ?_
  refine TL_nilQ ?_
  refine T_turn [] [0, 1, 5] [] (mk 42 [(0, (ow 179)), (1, (.one (.fn 48 [.inl 10, .inl 11]))), (5, (di v_42))] [(10, (.var [(.dat (.sl 1 (r_7.1.map elI)))])), (11, (.var [(.dat (.sl 1 (r_7.2.1.map elI)))])), (12, (.var [(.dat (I ((v_12 : Nat) : Int)))])), (13, (.var [(.own 46)])), (46, (.map Tryz.prog 3 4 (mapS m_13))), (179, (.row 3 1 (l_14.map elI)))]) (by kernel_rfl) ?_
  refine T_seq ?_
  refine T_reg [] [0, 1, 5, 12] [] (mk 42 [(0, (ow 179)), (1, (.one (.fn 48 [.inl 10, .inl 11]))), (5, (di v_42)), (12, (db (v_42 == (-1))))] [(10, (.var [(.dat (.sl 1 (r_7.1.map elI)))])), (11, (.var [(.dat (.sl 1 (r_7.2.1.map elI)))])), (12, (.var [(.dat (I ((v_12 : Nat) : Int)))])), (13, (.var [(.own 46)])), (46, (.map Tryz.prog 3 4 (mapS m_13))), (179, (.row 3 1 (l_14.map elI)))]) _ (by kernel_rfl) (z4 zt) ?_
  refine T_cond (v_42 == (-1)) (by kernel_rfl) (fun b43 => ?_) (fun b43 => ?_)
  replace h := ite_t b43 h
  refine T_reg [] [4] [10, 11] (mk 42 [(4, (ow 179))] [(12, (.var [(.dat (I ((v_12 : Nat) : Int)))])), (13, (.var [(.own 46)])), (46, (.map Tryz.prog 3 4 (mapS m_13))), (179, (.row 3 1 (l_14.map elI)))]) _ (by kernel_rfl) (z4 zt) ?_
  refine T_ret ?_
  refine ⟨[(ow 179)], by kernel_rfl, ?_⟩
  refine TL_nilQ ?_
  exact Exists.intro (0, (l_14.map elI).length, l_14) (And.intro h (arr [.asPart 146] [12, 13, 140, 146] [] [12, 13, 46, 179] (by kernel_rfl)))
  replace h := ite_f b43 h
  refine T_skip ?_
  refine T_seqJ (α := Int × (List Int)) (fun ((i_44, l_45) : Int × (List Int)) => (mk 42 [(0, (ow 179)), (5, (di i_44))] [(12, (.var [(.dat (I ((v_12 : Nat) : Int)))])), (13, (.var [(.own 46)])), (46, (.map Tryz.prog 3 4 (mapS m_13))), (179, (.row 3 1 (l_45.map elI)))])) (fun ((i_44, l_45) : Int × (List Int)) => g_prizes_Next_j9 v_12 m_13 i_44 l_45 = some r) (fun v h => ?_) ?_
  obtain ⟨i_44, l_45⟩ := v
  obtain ⟨p_46, m_47, e48, h⟩ := sbo_inv elI h
  obtain ⟨c49, h⟩ := ck_inv h
  refine T_reg [zn, zn, (zd (.tup [(I ((p_46 : Nat) : Int)), (I ((m_47 : Nat) : Int))])), (zd (.sl 1 ((l_45.take p_46 ++ List.replicate m_47 (0 : Int) ++ l_45.drop (p_46 + m_47)).map elI)))] [0, 5] [] (mk 42 [(0, (ow 179)), (5, (di i_44))] [(12, (.var [(.dat (I ((v_12 : Nat) : Int)))])), (13, (.var [(.own 46)])), (46, (.map Tryz.prog 3 4 (mapS m_13))), (179, (.row 3 1 ((l_45.take p_46 ++ List.replicate m_47 (0 : Int) ++ l_45.drop (p_46 + m_47)).map elI)))]) _ (by kernel_rfl) (z5 (zc e48 (z1 (zc (clr_s elI l_45 (0 : Int) c49) zt)))) ?_
  obtain ⟨p_50, m_51, e52, h⟩ := sbo_inv elI h
  refine T_reg [zn, zn, (zd (.tup [(I ((p_50 : Nat) : Int)), (I ((m_51 : Nat) : Int))]))] [4] [] (mk 42 [(4, (.one (.part 179 p_50 m_51)))] [(12, (.var [(.dat (I ((v_12 : Nat) : Int)))])), (13, (.var [(.own 46)])), (46, (.map Tryz.prog 3 4 (mapS m_13))), (179, (.row 3 1 ((l_45.take p_46 ++ List.replicate m_47 (0 : Int) ++ l_45.drop (p_46 + m_47)).map elI)))]) _ (by kernel_rfl) (z5 (zc e52 (z2 zt))) ?_
  refine T_ret ?_
  refine ⟨[(.one (.part 179 p_50 m_51))], by kernel_rfl, ?_⟩
  refine TL_nilQ ?_
  exact Exists.intro (p_50, m_51, (l_45.take p_46 ++ List.replicate m_47 (0 : Int) ++ l_45.drop (p_46 + m_47))) (And.intro h (arr [] [12, 13, 140, 146] [] [12, 13, 46, 179] (by kernel_rfl)))
  obtain ⟨c53, h⟩ := ckI_inv h
  refine T_reg [zn, (zd (I (v_42 + 1)))] [0, 1, 5, 6] [] (mk 42 [(0, (ow 179)), (1, (.one (.fn 48 [.inl 10, .inl 11]))), (5, (di v_42)), (6, (di (v_42 + 1)))] [(10, (.var [(.dat (.sl 1 (r_7.1.map elI)))])), (11, (.var [(.dat (.sl 1 (r_7.2.1.map elI)))])), (12, (.var [(.dat (I ((v_12 : Nat) : Int)))])), (13, (.var [(.own 46)])), (46, (.map Tryz.prog 3 4 (mapS m_13))), (179, (.row 3 1 (l_14.map elI)))]) _ (by kernel_rfl) (z3 (zc c53 (z2 zt))) ?_
  refine T_block ?_
  refine T_arr [] [0, 1, 5, 6] [] [10, 11, 12, 13, 46, 179] _ (by kernel_rfl) (T_loopO (σ := Int × Int × (List Int)) (fun ((i_54, j_55, l_56) : Int × Int × (List Int)) => (mk 42 [(0, (ow 179)), (1, (.one (.fn 48 [.inl 10, .inl 11]))), (5, (di i_54)), (6, (di j_55))] [(10, (.var [(.dat (.sl 1 (r_7.1.map elI)))])), (11, (.var [(.dat (.sl 1 (r_7.2.1.map elI)))])), (12, (.var [(.dat (I ((v_12 : Nat) : Int)))])), (13, (.var [(.own 46)])), (46, (.map Tryz.prog 3 4 (mapS m_13))), (179, (.row 3 1 (l_56.map elI)))])) (g_prizes_Next_l10 r_7 v_12 m_13) (v_42, (v_42 + 1), l_14) h (fun v y1 hy1 h => ?_))
  obtain ⟨i_54, j_55, l_56⟩ := v
  refine T_seq ?_
  refine T_reg [zn, zn, (zd (I ((l_56.length : Nat) : Int)))] [0, 1, 5, 6, 19] [] (mk 42 [(0, (ow 179)), (1, (.one (.fn 48 [.inl 10, .inl 11]))), (5, (di i_54)), (6, (di j_55)), (19, (db (decide (j_55 < ((l_56.length : Nat) : Int)))))] [(10, (.var [(.dat (.sl 1 (r_7.1.map elI)))])), (11, (.var [(.dat (.sl 1 (r_7.2.1.map elI)))])), (12, (.var [(.dat (I ((v_12 : Nat) : Int)))])), (13, (.var [(.own 46)])), (46, (.map Tryz.prog 3 4 (mapS m_13))), (179, (.row 3 1 (l_56.map elI)))]) _ (by kernel_rfl) (z5 (zc (len_s elI l_56) (z2 zt))) ?_
  refine T_cond (decide (j_55 < ((l_56.length : Nat) : Int))) (by kernel_rfl) (fun b60 => ?_) (fun b60 => ?_)
  replace h := ite_t b60 h
  refine T_skip ?_
  refine T_seqJ (α := Int × (List Int)) (fun ((i_61, l_62) : Int × (List Int)) => (mk 42 [(0, (ow 179)), (1, (.one (.fn 48 [.inl 10, .inl 11]))), (5, (di i_61)), (6, (di j_55))] [(10, (.var [(.dat (.sl 1 (r_7.1.map elI)))])), (11, (.var [(.dat (.sl 1 (r_7.2.1.map elI)))])), (12, (.var [(.dat (I ((v_12 : Nat) : Int)))])), (13, (.var [(.own 46)])), (46, (.map Tryz.prog 3 4 (mapS m_13))), (179, (.row 3 1 (l_62.map elI)))])) (fun ((i_61, l_62) : Int × (List Int)) => g_prizes_Next_j11 j_55 r_7 v_12 m_13 i_61 l_62 = some y1) (fun v h => ?_) ?_
  obtain ⟨i_61, l_62⟩ := v
  obtain ⟨c63, h⟩ := ckI_inv h
  exact T_regJ [zn, (zd (I (j_55 + 1)))] [] [0, 1, 5, 6] [] [10, 11, 12, 13, 46, 179] _ _ (by kernel_rfl) (z3 (zc c63 (z2 zt))) (fun s hs => Exists.intro (i_61, (j_55 + 1), l_62) (And.intro h hs))
  refine T_block ?_
  obtain ⟨x_64, e65, e66, e67, h⟩ := gt_inv elI h
  refine T_reg [zn, zn, zn, (zd (I x_64))] [0, 1, 5, 6, 7] [] (mk 42 [(0, (ow 179)), (1, (.one (.fn 48 [.inl 10, .inl 11]))), (5, (di i_54)), (6, (di j_55)), (7, (di x_64))] [(10, (.var [(.dat (.sl 1 (r_7.1.map elI)))])), (11, (.var [(.dat (.sl 1 (r_7.2.1.map elI)))])), (12, (.var [(.dat (I ((v_12 : Nat) : Int)))])), (13, (.var [(.own 46)])), (46, (.map Tryz.prog 3 4 (mapS m_13))), (179, (.row 3 1 (l_56.map elI)))]) _ (by kernel_rfl) (z5 (zc e66 (z1 (zc e67 (z2 zt))))) ?_
  refine T_seq (T_parts ?_)
  refine TL_part 2 [] (mk 42 [(0, (ow 179)), (1, (.one (.fn 48 [.inl 10, .inl 11]))), (5, (di i_54)), (6, (di j_55)), (7, (di x_64)), (26, (.one (.fn 48 [.inl 10, .inl 11]))), (27, (di x_64))] [(10, (.var [(.dat (.sl 1 (r_7.1.map elI)))])), (11, (.var [(.dat (.sl 1 (r_7.2.1.map elI)))])), (12, (.var [(.dat (I ((v_12 : Nat) : Int)))])), (13, (.var [(.own 46)])), (46, (.map Tryz.prog 3 4 (mapS m_13))), (179, (.row 3 1 (l_56.map elI)))]) _ (by kernel_rfl) (z4 zt) rfl ?_
  refine TL_consJ (α := Bool) (fun (v_68 : Bool) => (mk 42 [(0, (ow 179)), (1, (.one (.fn 48 [.inl 10, .inl 11]))), (5, (di i_54)), (6, (di j_55)), (7, (di x_64)), (28, (db (v_68)))] [(10, (.var [(.dat (.sl 1 (r_7.1.map elI)))])), (11, (.var [(.dat (.sl 1 (r_7.2.1.map elI)))])), (12, (.var [(.dat (I ((v_12 : Nat) : Int)))])), (13, (.var [(.own 46)])), (46, (.map Tryz.prog 3 4 (mapS m_13))), (179, (.row 3 1 (l_56.map elI)))])) (fun (v_68 : Bool) => g_prizes_Next_j12 l_56 i_54 j_55 r_7 v_12 m_13 x_64 v_68 = some y1) (fun v_68 h => ?_) ?_
  refine TL_turn [] [0, 1, 5, 6, 7, 28] [] (mk 42 [(0, (ow 179)), (1, (.one (.fn 48 [.inl 10, .inl 11]))), (5, (di i_54)), (6, (di j_55)), (7, (di x_64)), (28, (db (v_68)))] [(10, (.var [(.dat (.sl 1 (r_7.1.map elI)))])), (11, (.var [(.dat (.sl 1 (r_7.2.1.map elI)))])), (12, (.var [(.dat (I ((v_12 : Nat) : Int)))])), (13, (.var [(.own 46)])), (46, (.map Tryz.prog 3 4 (mapS m_13))), (179, (.row 3 1 (l_56.map elI)))]) (by kernel_rfl) ?_
  refine TL_part 1 [] (mk 42 [(0, (ow 179)), (1, (.one (.fn 48 [.inl 10, .inl 11]))), (5, (di i_54)), (6, (di j_55)), (7, (di x_64)), (28, (db (v_68))), (29, (db (!(v_68))))] [(10, (.var [(.dat (.sl 1 (r_7.1.map elI)))])), (11, (.var [(.dat (.sl 1 (r_7.2.1.map elI)))])), (12, (.var [(.dat (I ((v_12 : Nat) : Int)))])), (13, (.var [(.own 46)])), (46, (.map Tryz.prog 3 4 (mapS m_13))), (179, (.row 3 1 (l_56.map elI)))]) _ (by kernel_rfl) (z2 zt) rfl ?_
  refine TL_nilQ ?_
  refine T_turn [] [0, 1, 5, 6, 7, 29] [] (mk 42 [(0, (ow 179)), (1, (.one (.fn 48 [.inl 10, .inl 11]))), (5, (di i_54)), (6, (di j_55)), (7, (di x_64)), (29, (db (!(v_68))))] [(10, (.var [(.dat (.sl 1 (r_7.1.map elI)))])), (11, (.var [(.dat (.sl 1 (r_7.2.1.map elI)))])), (12, (.var [(.dat (I ((v_12 : Nat) : Int)))])), (13, (.var [(.own 46)])), (46, (.map Tryz.prog 3 4 (mapS m_13))), (179, (.row 3 1 (l_56.map elI)))]) (by kernel_rfl) ?_
  refine T_cond (!(v_68)) (by kernel_rfl) (fun b69 => ?_) (fun b69 => ?_)
  replace h := ite_t b69 h
  obtain ⟨x_70, e71, e72, e73, h⟩ := gt_inv elI h
  refine T_reg (hl 5 [(4, (zd (.tup [(I x_70), (.sl 1 ((l_56.set (i_54).toNat x_64).map elI))])))]) [0, 1, 5, 6] [] (mk 42 [(0, (ow 179)), (1, (.one (.fn 48 [.inl 10, .inl 11]))), (5, (di i_54)), (6, (di j_55))] [(10, (.var [(.dat (.sl 1 (r_7.1.map elI)))])), (11, (.var [(.dat (.sl 1 (r_7.2.1.map elI)))])), (12, (.var [(.dat (I ((v_12 : Nat) : Int)))])), (13, (.var [(.own 46)])), (46, (.map Tryz.prog 3 4 (mapS m_13))), (179, (.row 3 1 ((l_56.set (i_54).toNat x_64).map elI)))]) _ (by kernel_rfl) (z7 (zc e72 (z1 (zc (set_inv elI x_64 e73) zt)))) ?_
  obtain ⟨c74, h⟩ := ckI_inv h
  exact T_regJ [zn, (zd (I (i_54 + 1)))] [] [0, 1, 5, 6] [] [10, 11, 12, 13, 46, 179] _ _ (by kernel_rfl) (z3 (zc c74 (z2 zt))) (fun s hs => Exists.intro ((i_54 + 1), (l_56.set (i_54).toNat x_64)) (And.intro h hs))
  replace h := ite_f b69 h
  refine T_skip ?_
  exact Exists.intro (i_54, l_56) (And.intro h (arr [] [0, 1, 5, 6] [] [10, 11, 12, 13, 46, 179] (by kernel_rfl)))
  refine TL_inline 222 48 [.inl 10, .inl 11] Tryz.f48 _ rfl rfl (by kernel_rfl) Tryz.func48 rfl rfl (by decide) ?_
  refine T_turn [] [0, 1, 2] [] (mk 13 [(0, (di x_64)), (1, (rf 10 0)), (2, (rf 11 0))] [(10, (.var [(.dat (.sl 1 (r_7.1.map elI)))])), (11, (.var [(.dat (.sl 1 (r_7.2.1.map elI)))])), (12, (.var [(.dat (I ((v_12 : Nat) : Int)))])), (13, (.var [(.own 46)])), (46, (.map Tryz.prog 3 4 (mapS m_13))), (179, (.row 3 1 (l_56.map elI)))]) (by kernel_rfl) ?_
  refine T_reg [] [0, 1, 2] [] (mk 13 [(0, (di x_64)), (1, (rf 10 0)), (2, (rf 11 0))] [(10, (.var [(.dat (.sl 1 (r_7.1.map elI)))])), (11, (.var [(.dat (.sl 1 (r_7.2.1.map elI)))])), (12, (.var [(.dat (I ((v_12 : Nat) : Int)))])), (13, (.var [(.own 46)])), (46, (.map Tryz.prog 3 4 (mapS m_13))), (179, (.row 3 1 (l_56.map elI)))]) _ (by kernel_rfl) (z2 zt) ?_
  obtain ⟨r_75, e76, h⟩ := bd_inv h
  rcases Bool.eq_false_or_eq_true (r_75) with b77 | b77
  replace h := ite_t b77 h
  refine T_reg [zn, zn, (zd (B (r_75))), zn, zg, zg, zg, (zd (B true))] [4] [] (mk 13 [(4, (db true))] [(10, (.var [(.dat (.sl 1 (r_7.1.map elI)))])), (11, (.var [(.dat (.sl 1 (r_7.2.1.map elI)))])), (12, (.var [(.dat (I ((v_12 : Nat) : Int)))])), (13, (.var [(.own 46)])), (46, (.map Tryz.prog 3 4 (mapS m_13))), (179, (.row 3 1 (l_56.map elI)))]) _ (by kernel_rfl) (z5 (zc (g_slices_Contains_Lint_int_ret e76) (z2 (zc (gd_tf b77) (zc (gd_tf b77) (zc (gd_tf b77) (z1 (zc b77 (z2 zt))))))))) ?_
  refine T_ret ?_
  refine ⟨[(db true)], by kernel_rfl, ?_⟩
  refine TL_nilQ ?_
  exact Exists.intro true (And.intro h (arr [] [0, 1, 5, 6, 7, 28] [] [10, 11, 12, 13, 46, 179] (by kernel_rfl)))
  replace h := ite_f b77 h
  obtain ⟨r_78, e79, h⟩ := bd_inv h
  refine T_reg [zn, zn, (zd (B (r_75))), zn, zn, zn, (zd (B (r_78))), (zd (B false))] [4] [] (mk 13 [(4, (db (r_78)))] [(10, (.var [(.dat (.sl 1 (r_7.1.map elI)))])), (11, (.var [(.dat (.sl 1 (r_7.2.1.map elI)))])), (12, (.var [(.dat (I ((v_12 : Nat) : Int)))])), (13, (.var [(.own 46)])), (46, (.map Tryz.prog 3 4 (mapS m_13))), (179, (.row 3 1 (l_56.map elI)))]) _ (by kernel_rfl) (z5 (zc (g_slices_Contains_Lint_int_ret e76) (z2 (zc (gd_ff b77) (z1 (zc (gd_ff b77) (z1 (zc (gd_ff b77) (zc (g_slices_Contains_Lint_int_ret e79) (z1 (zc b77 (z2 zt)))))))))))) ?_
  refine T_ret ?_
  refine ⟨[(db (r_78))], by kernel_rfl, ?_⟩
  refine TL_nilQ ?_
  exact Exists.intro (r_78) (And.intro h (arr [] [0, 1, 5, 6, 7, 28] [] [10, 11, 12, 13, 46, 179] (by kernel_rfl)))
  replace h := ite_f b60 h
  refine T_exit ?_
  replace h := up_inv h hy1
  exact Exists.intro (i_54, l_56) (And.intro h (arr [] [0, 5] [10, 11] [12, 13, 46, 179] (by kernel_rfl)))
  refine TL_inline 222 69 [] Tryz.f69 _ rfl rfl (by kernel_rfl) Tryz.func69 rfl rfl (by decide) ?_
  refine T_turn [] [0, 1] [] (mk 19 [(0, (ow 179)), (1, (.one (.fn 48 [.inl 10, .inl 11])))] [(10, (.var [(.dat (.sl 1 (r_7.1.map elI)))])), (11, (.var [(.dat (.sl 1 (r_7.2.1.map elI)))])), (12, (.var [(.dat (I ((v_12 : Nat) : Int)))])), (13, (.var [(.own 46)])), (46, (.map Tryz.prog 3 4 (mapS m_13))), (179, (.row 3 1 (l_14.map elI)))]) (by kernel_rfl) ?_
  refine T_reg [] [0, 1] [] (mk 19 [(0, (ow 179)), (1, (.one (.fn 48 [.inl 10, .inl 11])))] [(10, (.var [(.dat (.sl 1 (r_7.1.map elI)))])), (11, (.var [(.dat (.sl 1 (r_7.2.1.map elI)))])), (12, (.var [(.dat (I ((v_12 : Nat) : Int)))])), (13, (.var [(.own 46)])), (46, (.map Tryz.prog 3 4 (mapS m_13))), (179, (.row 3 1 (l_14.map elI)))]) _ (by kernel_rfl) (z2 zt) ?_
  refine T_seqJ (α := Unit) (fun (_ : Unit) => (mk 19 [] [(10, (.var [(.dat (.sl 1 (r_7.1.map elI)))])), (11, (.var [(.dat (.sl 1 (r_7.2.1.map elI)))])), (12, (.var [(.dat (I ((v_12 : Nat) : Int)))])), (13, (.var [(.own 46)])), (46, (.map Tryz.prog 3 4 (mapS m_13))), (179, (.row 3 1 (l_14.map elI)))])) (fun (_ : Unit) => g_prizes_Next_j13 v_12 m_13 l_14 r_7 = some r) (fun v h => ?_) ?_
  refine T_reg [] [4] [] (mk 19 [(4, (di (-1)))] [(10, (.var [(.dat (.sl 1 (r_7.1.map elI)))])), (11, (.var [(.dat (.sl 1 (r_7.2.1.map elI)))])), (12, (.var [(.dat (I ((v_12 : Nat) : Int)))])), (13, (.var [(.own 46)])), (46, (.map Tryz.prog 3 4 (mapS m_13))), (179, (.row 3 1 (l_14.map elI)))]) _ (by kernel_rfl) (z2 zt) ?_
  refine T_ret ?_
  refine ⟨[(di (-1))], by kernel_rfl, ?_⟩
  refine TL_nilQ ?_
  exact Exists.intro (-1) (And.intro h (arr [] [0, 1, 10] [] [10, 11, 12, 13, 46, 179] (by kernel_rfl)))
  refine T_reg [zn, (zd (I ((l_14.length : Nat) : Int)))] [0, 1, 7, 8] [] (mk 19 [(0, (ow 179)), (1, (.one (.fn 48 [.inl 10, .inl 11]))), (7, (di ((l_14.length : Nat) : Int))), (8, (di 0))] [(10, (.var [(.dat (.sl 1 (r_7.1.map elI)))])), (11, (.var [(.dat (.sl 1 (r_7.2.1.map elI)))])), (12, (.var [(.dat (I ((v_12 : Nat) : Int)))])), (13, (.var [(.own 46)])), (46, (.map Tryz.prog 3 4 (mapS m_13))), (179, (.row 3 1 (l_14.map elI)))]) _ (by kernel_rfl) (z3 (zc (len_s elI l_14) (z2 zt))) ?_
  refine T_block ?_
  refine T_arr [] [0, 1, 7, 8] [] [10, 11, 12, 13, 46, 179] _ (by kernel_rfl) (T_loopO (σ := Nat) (fun (v_80 : Nat) => (mk 19 [(0, (ow 179)), (1, (.one (.fn 48 [.inl 10, .inl 11]))), (7, (di ((l_14.length : Nat) : Int))), (8, (di ((v_80 : Nat) : Int)))] [(10, (.var [(.dat (.sl 1 (r_7.1.map elI)))])), (11, (.var [(.dat (.sl 1 (r_7.2.1.map elI)))])), (12, (.var [(.dat (I ((v_12 : Nat) : Int)))])), (13, (.var [(.own 46)])), (46, (.map Tryz.prog 3 4 (mapS m_13))), (179, (.row 3 1 (l_14.map elI)))])) (g_prizes_Next_l14 l_14 r_7 v_12 m_13) 0 h (fun v_80 y1 hy1 h => ?_))
  refine T_reg [] [0, 1, 7, 8, 9] [] (mk 19 [(0, (ow 179)), (1, (.one (.fn 48 [.inl 10, .inl 11]))), (7, (di ((l_14.length : Nat) : Int))), (8, (di ((v_80 : Nat) : Int))), (9, (db (decide (((v_80 : Nat) : Int) < ((l_14.length : Nat) : Int)))))] [(10, (.var [(.dat (.sl 1 (r_7.1.map elI)))])), (11, (.var [(.dat (.sl 1 (r_7.2.1.map elI)))])), (12, (.var [(.dat (I ((v_12 : Nat) : Int)))])), (13, (.var [(.own 46)])), (46, (.map Tryz.prog 3 4 (mapS m_13))), (179, (.row 3 1 (l_14.map elI)))]) _ (by kernel_rfl) (z2 zt) ?_
  refine T_seq ?_
  refine T_cond (decide (((v_80 : Nat) : Int) < ((l_14.length : Nat) : Int))) (by kernel_rfl) (fun b82 => ?_) (fun b82 => ?_)
  replace h := ite_t b82 h
  refine T_skip ?_
  refine T_seq ?_
  refine T_block ?_
  refine T_reg [] [0, 1, 5, 7, 8] [] (mk 19 [(0, (ow 179)), (1, (.one (.fn 48 [.inl 10, .inl 11]))), (5, (di ((v_80 : Nat) : Int))), (7, (di ((l_14.length : Nat) : Int))), (8, (di ((v_80 : Nat) : Int)))] [(10, (.var [(.dat (.sl 1 (r_7.1.map elI)))])), (11, (.var [(.dat (.sl 1 (r_7.2.1.map elI)))])), (12, (.var [(.dat (I ((v_12 : Nat) : Int)))])), (13, (.var [(.own 46)])), (46, (.map Tryz.prog 3 4 (mapS m_13))), (179, (.row 3 1 (l_14.map elI)))]) _ (by kernel_rfl) (z4 zt) ?_
  obtain ⟨x_83, e84, e85, e86, h⟩ := gn_inv elI h
  refine T_seq (T_parts ?_)
  refine TL_part 5 (hl 5 [(4, (zd (I x_83)))]) (mk 19 [(0, (ow 179)), (1, (.one (.fn 48 [.inl 10, .inl 11]))), (5, (di ((v_80 : Nat) : Int))), (7, (di ((l_14.length : Nat) : Int))), (8, (di ((v_80 : Nat) : Int))), (11, (.one (.fn 48 [.inl 10, .inl 11]))), (12, (ow 179)), (13, (di ((v_80 : Nat) : Int))), (14, (.one (.rref 179 v_80 0))), (15, (di x_83))] [(10, (.var [(.dat (.sl 1 (r_7.1.map elI)))])), (11, (.var [(.dat (.sl 1 (r_7.2.1.map elI)))])), (12, (.var [(.dat (I ((v_12 : Nat) : Int)))])), (13, (.var [(.own 46)])), (46, (.map Tryz.prog 3 4 (mapS m_13))), (179, (.row 3 1 (l_14.map elI)))]) _ (by kernel_rfl) (z7 (zc e85 (z1 (zc e86 zt)))) rfl ?_
  refine TL_consJ (α := Bool) (fun (v_87 : Bool) => (mk 19 [(0, (ow 179)), (1, (.one (.fn 48 [.inl 10, .inl 11]))), (5, (di ((v_80 : Nat) : Int))), (7, (di ((l_14.length : Nat) : Int))), (8, (di ((v_80 : Nat) : Int))), (16, (db (v_87)))] [(10, (.var [(.dat (.sl 1 (r_7.1.map elI)))])), (11, (.var [(.dat (.sl 1 (r_7.2.1.map elI)))])), (12, (.var [(.dat (I ((v_12 : Nat) : Int)))])), (13, (.var [(.own 46)])), (46, (.map Tryz.prog 3 4 (mapS m_13))), (179, (.row 3 1 (l_14.map elI)))])) (fun (v_87 : Bool) => g_prizes_Next_j15 v_12 m_13 l_14 r_7 v_80 v_87 = some y1) (fun v_87 h => ?_) ?_
  refine TL_turn [] [0, 1, 5, 7, 8, 16] [] (mk 19 [(0, (ow 179)), (1, (.one (.fn 48 [.inl 10, .inl 11]))), (5, (di ((v_80 : Nat) : Int))), (7, (di ((l_14.length : Nat) : Int))), (8, (di ((v_80 : Nat) : Int))), (16, (db (v_87)))] [(10, (.var [(.dat (.sl 1 (r_7.1.map elI)))])), (11, (.var [(.dat (.sl 1 (r_7.2.1.map elI)))])), (12, (.var [(.dat (I ((v_12 : Nat) : Int)))])), (13, (.var [(.own 46)])), (46, (.map Tryz.prog 3 4 (mapS m_13))), (179, (.row 3 1 (l_14.map elI)))]) (by kernel_rfl) ?_
  refine TL_nilQ ?_
  refine T_turn [] [0, 1, 5, 7, 8, 16] [] (mk 19 [(0, (ow 179)), (1, (.one (.fn 48 [.inl 10, .inl 11]))), (5, (di ((v_80 : Nat) : Int))), (7, (di ((l_14.length : Nat) : Int))), (8, (di ((v_80 : Nat) : Int))), (16, (db (v_87)))] [(10, (.var [(.dat (.sl 1 (r_7.1.map elI)))])), (11, (.var [(.dat (.sl 1 (r_7.2.1.map elI)))])), (12, (.var [(.dat (I ((v_12 : Nat) : Int)))])), (13, (.var [(.own 46)])), (46, (.map Tryz.prog 3 4 (mapS m_13))), (179, (.row 3 1 (l_14.map elI)))]) (by kernel_rfl) ?_
  refine T_cond (v_87) (by kernel_rfl) (fun b88 => ?_) (fun b88 => ?_)
  replace h := ite_t b88 h
  refine T_reg [] [4] [] (mk 19 [(4, (di ((v_80 : Nat) : Int)))] [(10, (.var [(.dat (.sl 1 (r_7.1.map elI)))])), (11, (.var [(.dat (.sl 1 (r_7.2.1.map elI)))])), (12, (.var [(.dat (I ((v_12 : Nat) : Int)))])), (13, (.var [(.own 46)])), (46, (.map Tryz.prog 3 4 (mapS m_13))), (179, (.row 3 1 (l_14.map elI)))]) _ (by kernel_rfl) (z4 zt) ?_
  refine T_ret ?_
  replace h := up_inv h hy1
  refine ⟨[(di ((v_80 : Nat) : Int))], by kernel_rfl, ?_⟩
  refine TL_nilQ ?_
  exact Exists.intro ((v_80 : Nat) : Int) (And.intro h (arr [] [0, 1, 10] [] [10, 11, 12, 13, 46, 179] (by kernel_rfl)))
  replace h := ite_f b88 h
  refine T_skip ?_
  obtain ⟨c89, h⟩ := ckI_inv h
  exact T_regJ [(zd (I ((v_80 + 1 : Nat) : Int)))] [] [0, 1, 7, 8] [] [10, 11, 12, 13, 46, 179] _ _ (by kernel_rfl) (z1 (zc c89 (z2 zt))) (fun s hs => Exists.intro (v_80 + 1) (And.intro h hs))
  refine TL_inline 241 48 [.inl 10, .inl 11] Tryz.f48 _ rfl rfl (by kernel_rfl) Tryz.func48 rfl rfl (by decide) ?_
  refine T_turn [] [0, 1, 2] [] (mk 13 [(0, (di x_83)), (1, (rf 10 0)), (2, (rf 11 0))] [(10, (.var [(.dat (.sl 1 (r_7.1.map elI)))])), (11, (.var [(.dat (.sl 1 (r_7.2.1.map elI)))])), (12, (.var [(.dat (I ((v_12 : Nat) : Int)))])), (13, (.var [(.own 46)])), (46, (.map Tryz.prog 3 4 (mapS m_13))), (179, (.row 3 1 (l_14.map elI)))]) (by kernel_rfl) ?_
  refine T_reg [] [0, 1, 2] [] (mk 13 [(0, (di x_83)), (1, (rf 10 0)), (2, (rf 11 0))] [(10, (.var [(.dat (.sl 1 (r_7.1.map elI)))])), (11, (.var [(.dat (.sl 1 (r_7.2.1.map elI)))])), (12, (.var [(.dat (I ((v_12 : Nat) : Int)))])), (13, (.var [(.own 46)])), (46, (.map Tryz.prog 3 4 (mapS m_13))), (179, (.row 3 1 (l_14.map elI)))]) _ (by kernel_rfl) (z2 zt) ?_
  obtain ⟨r_90, e91, h⟩ := bd_inv h
  rcases Bool.eq_false_or_eq_true (r_90) with b92 | b92
  replace h := ite_t b92 h
  refine T_reg [zn, zn, (zd (B (r_90))), zn, zg, zg, zg, (zd (B true))] [4] [] (mk 13 [(4, (db true))] [(10, (.var [(.dat (.sl 1 (r_7.1.map elI)))])), (11, (.var [(.dat (.sl 1 (r_7.2.1.map elI)))])), (12, (.var [(.dat (I ((v_12 : Nat) : Int)))])), (13, (.var [(.own 46)])), (46, (.map Tryz.prog 3 4 (mapS m_13))), (179, (.row 3 1 (l_14.map elI)))]) _ (by kernel_rfl) (z5 (zc (g_slices_Contains_Lint_int_ret e91) (z2 (zc (gd_tf b92) (zc (gd_tf b92) (zc (gd_tf b92) (z1 (zc b92 (z2 zt))))))))) ?_
  refine T_ret ?_
  refine ⟨[(db true)], by kernel_rfl, ?_⟩
  refine TL_nilQ ?_
  exact Exists.intro true (And.intro h (arr [] [0, 1, 5, 7, 8, 16] [] [10, 11, 12, 13, 46, 179] (by kernel_rfl)))
  replace h := ite_f b92 h
  obtain ⟨r_93, e94, h⟩ := bd_inv h
  refine T_reg [zn, zn, (zd (B (r_90))), zn, zn, zn, (zd (B (r_93))), (zd (B false))] [4] [] (mk 13 [(4, (db (r_93)))] [(10, (.var [(.dat (.sl 1 (r_7.1.map elI)))])), (11, (.var [(.dat (.sl 1 (r_7.2.1.map elI)))])), (12, (.var [(.dat (I ((v_12 : Nat) : Int)))])), (13, (.var [(.own 46)])), (46, (.map Tryz.prog 3 4 (mapS m_13))), (179, (.row 3 1 (l_14.map elI)))]) _ (by kernel_rfl) (z5 (zc (g_slices_Contains_Lint_int_ret e91) (z2 (zc (gd_ff b92) (z1 (zc (gd_ff b92) (z1 (zc (gd_ff b92) (zc (g_slices_Contains_Lint_int_ret e94) (z1 (zc b92 (z2 zt)))))))))))) ?_
  refine T_ret ?_
  refine ⟨[(db (r_93))], by kernel_rfl, ?_⟩
  refine TL_nilQ ?_
  exact Exists.intro (r_93) (And.intro h (arr [] [0, 1, 5, 7, 8, 16] [] [10, 11, 12, 13, 46, 179] (by kernel_rfl)))
  replace h := ite_f b82 h
  refine T_exit ?_
  replace h := up_inv h hy1
  exact Exists.intro () (And.intro h (arr [] [] [] [10, 11, 12, 13, 46, 179] (by kernel_rfl)))
  refine TL_inline 163 43 [] Tryz.f43 _ rfl rfl (by kernel_rfl) Tryz.func43 rfl rfl (by decide) ?_
  refine T_turn [] [0] [] (mk 21 [(0, (dt (.sl 14 (r_4.1.table.l.map encPlace))))] [(8, (.var (qLeague r_4.1))), (10, (.var [(.dat (.sl 1 (r_7.1.map elI)))])), (11, (.var [(.dat (.sl 1 (r_7.2.1.map elI)))])), (12, (.var [(.dat (I ((v_12 : Nat) : Int)))])), (13, (.var [(.own 46)])), (46, (.map Tryz.prog 3 4 (mapS m_13)))]) (by kernel_rfl) ?_
  refine T_reg [] [0, 2] [8] (mk 21 [(0, (dt (.sl 14 (r_4.1.table.l.map encPlace)))), (2, (dt nilS))] [(10, (.var [(.dat (.sl 1 (r_7.1.map elI)))])), (11, (.var [(.dat (.sl 1 (r_7.2.1.map elI)))])), (12, (.var [(.dat (I ((v_12 : Nat) : Int)))])), (13, (.var [(.own 46)])), (46, (.map Tryz.prog 3 4 (mapS m_13)))]) _ (by kernel_rfl) (z2 zt) ?_
  refine T_seqJ (α := List Int) (fun (l_95 : List Int) => (mk 21 [(2, (ow 179))] [(10, (.var [(.dat (.sl 1 (r_7.1.map elI)))])), (11, (.var [(.dat (.sl 1 (r_7.2.1.map elI)))])), (12, (.var [(.dat (I ((v_12 : Nat) : Int)))])), (13, (.var [(.own 46)])), (46, (.map Tryz.prog 3 4 (mapS m_13))), (179, (.row 3 1 (l_95.map elI)))])) (fun (l_95 : List Int) => g_prizes_Next_j16 r_7 v_12 m_13 l_95 = some r) (fun l_95 h => ?_) ?_
  refine T_seq (T_parts ?_)
  refine TL_part 1 [] (mk 21 [(2, (ow 179)), (18, (ow 179))] [(10, (.var [(.dat (.sl 1 (r_7.1.map elI)))])), (11, (.var [(.dat (.sl 1 (r_7.2.1.map elI)))])), (12, (.var [(.dat (I ((v_12 : Nat) : Int)))])), (13, (.var [(.own 46)])), (46, (.map Tryz.prog 3 4 (mapS m_13))), (179, (.row 3 1 (l_95.map elI)))]) _ (by kernel_rfl) (z2 zt) rfl ?_
  obtain ⟨c96, h⟩ := ck_inv h
  refine TL_sortI 64 3 sort_okI rfl rfl (by kernel_rfl) 179 (by kernel_rfl) l_95 (by kernel_rfl) c96 ?_
  refine TL_turn [] [2, 19] [] (mk 21 [(2, (ow 179)), (19, (dt (.tup [])))] [(10, (.var [(.dat (.sl 1 (r_7.1.map elI)))])), (11, (.var [(.dat (.sl 1 (r_7.2.1.map elI)))])), (12, (.var [(.dat (I ((v_12 : Nat) : Int)))])), (13, (.var [(.own 46)])), (46, (.map Tryz.prog 3 4 (mapS m_13))), (179, (.row 3 1 ((srtI l_95).map elI)))]) (by kernel_rfl) ?_
  refine TL_nilQ ?_
  refine T_turn [] [2] [] (mk 21 [(2, (ow 179))] [(10, (.var [(.dat (.sl 1 (r_7.1.map elI)))])), (11, (.var [(.dat (.sl 1 (r_7.2.1.map elI)))])), (12, (.var [(.dat (I ((v_12 : Nat) : Int)))])), (13, (.var [(.own 46)])), (46, (.map Tryz.prog 3 4 (mapS m_13))), (179, (.row 3 1 ((srtI l_95).map elI)))]) (by kernel_rfl) ?_
  refine T_reg [] [2] [] (mk 21 [(2, (ow 179))] [(10, (.var [(.dat (.sl 1 (r_7.1.map elI)))])), (11, (.var [(.dat (.sl 1 (r_7.2.1.map elI)))])), (12, (.var [(.dat (I ((v_12 : Nat) : Int)))])), (13, (.var [(.own 46)])), (46, (.map Tryz.prog 3 4 (mapS m_13))), (179, (.row 3 1 ((srtI l_95).map elI)))]) _ (by kernel_rfl) (z4 zt) ?_
  refine T_ret ?_
  refine ⟨[(ow 179)], by kernel_rfl, ?_⟩
  refine TL_nilQ ?_
  exact Exists.intro (srtI l_95) (And.intro h (arr [] [10, 11, 12, 13, 140, 144] [] [10, 11, 12, 13, 46, 179] (by kernel_rfl)))
  refine T_reg [zn, (zd (I ((r_4.1.table.l.length : Nat) : Int)))] [2, 5, 6, 7] [] (mk 21 [(2, (dt nilS)), (5, (dt (.sl 14 (r_4.1.table.l.map encPlace)))), (6, (di ((r_4.1.table.l.length : Nat) : Int))), (7, (di 0))] [(10, (.var [(.dat (.sl 1 (r_7.1.map elI)))])), (11, (.var [(.dat (.sl 1 (r_7.2.1.map elI)))])), (12, (.var [(.dat (I ((v_12 : Nat) : Int)))])), (13, (.var [(.own 46)])), (46, (.map Tryz.prog 3 4 (mapS m_13)))]) _ (by kernel_rfl) (z3 (zc (len_s encPlace r_4.1.table.l) (z2 zt))) ?_
  refine T_block ?_
  refine T_arr [.ownS 2 179 3 1] [2, 5, 6, 7] [] [10, 11, 12, 13, 46, 179] _ (by kernel_rfl) (T_loopO (σ := Nat × (List Int)) (fun ((v_97, l_98) : Nat × (List Int)) => (mk 21 [(2, (ow 179)), (5, (dt (.sl 14 (r_4.1.table.l.map encPlace)))), (6, (di ((r_4.1.table.l.length : Nat) : Int))), (7, (di ((v_97 : Nat) : Int)))] [(10, (.var [(.dat (.sl 1 (r_7.1.map elI)))])), (11, (.var [(.dat (.sl 1 (r_7.2.1.map elI)))])), (12, (.var [(.dat (I ((v_12 : Nat) : Int)))])), (13, (.var [(.own 46)])), (46, (.map Tryz.prog 3 4 (mapS m_13))), (179, (.row 3 1 (l_98.map elI)))])) (g_prizes_Next_l17 r_4 r_7 v_12 m_13) (0, ([] : List Int)) h (fun v y1 hy1 h => ?_))
  obtain ⟨v_97, l_98⟩ := v
  refine T_reg [] [2, 5, 6, 7, 8] [] (mk 21 [(2, (ow 179)), (5, (dt (.sl 14 (r_4.1.table.l.map encPlace)))), (6, (di ((r_4.1.table.l.length : Nat) : Int))), (7, (di ((v_97 : Nat) : Int))), (8, (db (decide (((v_97 : Nat) : Int) < ((r_4.1.table.l.length : Nat) : Int)))))] [(10, (.var [(.dat (.sl 1 (r_7.1.map elI)))])), (11, (.var [(.dat (.sl 1 (r_7.2.1.map elI)))])), (12, (.var [(.dat (I ((v_12 : Nat) : Int)))])), (13, (.var [(.own 46)])), (46, (.map Tryz.prog 3 4 (mapS m_13))), (179, (.row 3 1 (l_98.map elI)))]) _ (by kernel_rfl) (z2 zt) ?_
  refine T_seq ?_
  refine T_cond (decide (((v_97 : Nat) : Int) < ((r_4.1.table.l.length : Nat) : Int))) (by kernel_rfl) (fun b101 => ?_) (fun b101 => ?_)
  replace h := ite_t b101 h
  refine T_skip ?_
  refine T_seq ?_
  refine T_block ?_
  obtain ⟨x_102, e103, e104, e105, h⟩ := gn_inv encPlace h
  refine T_reg [(zd (encPlace x_102))] [2, 4, 5, 6, 7] [] (mk 21 [(2, (ow 179)), (4, (rf 167 0)), (5, (dt (.sl 14 (r_4.1.table.l.map encPlace)))), (6, (di ((r_4.1.table.l.length : Nat) : Int))), (7, (di ((v_97 : Nat) : Int)))] [(167, (.var (qPlace x_102))), (10, (.var [(.dat (.sl 1 (r_7.1.map elI)))])), (11, (.var [(.dat (.sl 1 (r_7.2.1.map elI)))])), (12, (.var [(.dat (I ((v_12 : Nat) : Int)))])), (13, (.var [(.own 46)])), (46, (.map Tryz.prog 3 4 (mapS m_13))), (179, (.row 3 1 (l_98.map elI)))]) _ (by kernel_rfl) (z1 (zc e103 (z6 zt))) ?_
  obtain ⟨c106, h⟩ := ck_inv h
  refine T_regE (hl 6 [(5, (zd (.sl 1 ((l_98 ++ [x_102.r.c]).map elI))))]) (mk 21 [(2, (ow 179)), (4, (rf 167 0)), (5, (dt (.sl 14 (r_4.1.table.l.map encPlace)))), (6, (di ((r_4.1.table.l.length : Nat) : Int))), (7, (di ((v_97 : Nat) : Int))), (12, (rf 167 3)), (13, (rf 167 3)), (14, (di x_102.r.c)), (15, (ow 178)), (16, (ow 179))] [(179, (.row 3 1 ((l_98 ++ [x_102.r.c]).map elI))), (178, (.row 3 1 ([x_102.r.c].map elI))), (167, (.var (qPlace x_102))), (10, (.var [(.dat (.sl 1 (r_7.1.map elI)))])), (11, (.var [(.dat (.sl 1 (r_7.2.1.map elI)))])), (12, (.var [(.dat (I ((v_12 : Nat) : Int)))])), (13, (.var [(.own 46)])), (46, (.map Tryz.prog 3 4 (mapS m_13)))]) _ (by kernel_rfl) (z8 (z1 (zc (show dfill (fun i => some (i * 1, 1)) (List.replicate (1 * 1) .junk) [(0, [(.dat (I x_102.r.c))])] = some ((flat ([x_102.r.c].map elI)).map .dat) from rfl) (z1 (zc (app_s elI elI_one l_98 ([x_102.r.c]) c106) (z2 zt)))))) ?_
  obtain ⟨c107, h⟩ := ckI_inv h
  exact T_regJ [(zd (I ((v_97 + 1 : Nat) : Int)))] [] [2, 5, 6, 7] [178, 167] [10, 11, 12, 13, 46, 179] _ _ (by kernel_rfl) (z1 (zc c107 (z2 zt))) (fun s hs => Exists.intro (v_97 + 1, (l_98 ++ [x_102.r.c])) (And.intro h hs))
  replace h := ite_f b101 h
  refine T_exit ?_
  replace h := up_inv h hy1
  exact Exists.intro l_98 (And.intro h (arr [] [2] [] [10, 11, 12, 13, 46, 179] (by kernel_rfl)))
  refine T_reg [] [0, 1, 2, 8, 10, 11, 12, 13, 14, 97] [] (mk 163 [(0, (dt (.sl 3 (tables_1.map encTab)))), (1, (dt (.sl 6 (schemes_2.map encSch)))), (2, (di comp_3)), (8, (rf 8 0)), (10, (rf 10 0)), (11, (rf 11 0)), (12, (rf 12 0)), (13, (rf 13 0)), (14, (.one (.fn 46 [.inl 13, .inl 12]))), (97, (db (r_4.1.scheme.be != (-1))))] [(8, (.var (qLeague r_4.1))), (10, (.var [(.dat (.sl 1 (r_7.1.map elI)))])), (11, (.var [(.dat (.sl 1 (r_7.2.1.map elI)))])), (12, (.var [(.dat (I ((v_10 : Nat) : Int)))])), (13, (.var [(.own 46)])), (46, (.map Tryz.prog 3 4 (mapS m_11)))]) _ (by kernel_rfl) (z8 zt) ?_
  refine T_cond (r_4.1.scheme.be != (-1)) (by kernel_rfl) (fun b108 => ?_) (fun b108 => ?_)
  replace h := ite_t b108 h
  obtain ⟨r_109, e110, h⟩ := bd_inv h
  refine T_reg (hl 6 [(5, (zd (.tup [(encLeague r_109.1), (B (r_109.2))])))]) [2, 8, 10, 11, 12, 13, 14, 20, 21] [] (mk 163 [(2, (di comp_3)), (8, (rf 8 0)), (10, (rf 10 0)), (11, (rf 11 0)), (12, (rf 12 0)), (13, (rf 13 0)), (14, (.one (.fn 46 [.inl 13, .inl 12]))), (20, (rf 20 0)), (21, (db (r_109.2)))] [(20, (.var (qLeague r_109.1))), (8, (.var (qLeague r_4.1))), (10, (.var [(.dat (.sl 1 (r_7.1.map elI)))])), (11, (.var [(.dat (.sl 1 (r_7.2.1.map elI)))])), (12, (.var [(.dat (I ((v_10 : Nat) : Int)))])), (13, (.var [(.own 46)])), (46, (.map Tryz.prog 3 4 (mapS m_11)))]) _ (by kernel_rfl) (z8 (z3 (zc (g_prizes_of_ret e110) (z8 (z4 zt))))) ?_
  refine T_seq ?_
  refine T_seqJ (α := Bool) (fun (v_111 : Bool) => (mk 163 [(8, (rf 8 0)), (10, (rf 10 0)), (11, (rf 11 0)), (12, (rf 12 0)), (13, (rf 13 0)), (14, (.one (.fn 46 [.inl 13, .inl 12]))), (20, (rf 20 0)), (124, (db (v_111)))] [(8, (.var (qLeague r_4.1))), (10, (.var [(.dat (.sl 1 (r_7.1.map elI)))])), (11, (.var [(.dat (.sl 1 (r_7.2.1.map elI)))])), (12, (.var [(.dat (I ((v_10 : Nat) : Int)))])), (13, (.var [(.own 46)])), (20, (.var (qLeague r_109.1))), (46, (.map Tryz.prog 3 4 (mapS m_11)))])) (fun (v_111 : Bool) => g_prizes_Next_j18 r_109 r_4 r_7 v_10 m_11 v_111 = some r) (fun v_111 h => ?_) ?_
  refine T_cond (v_111) (by kernel_rfl) (fun b112 => ?_) (fun b112 => ?_)
  replace h := ite_t b112 h
  refine T_reg [] [6, 7] [8, 10, 11, 12, 13, 20, 46] (mk 163 [(6, (dt nilS)), (7, (di 420))] []) _ (by kernel_rfl) (z4 zt) ?_
  refine T_ret ?_
  obtain rfl := some_inv h
  exact ret_here [(dt nilS), (di 420)] (by kernel_rfl) ⟨(.inr ⟨rfl, 1, rfl⟩), (.inl rfl), trivial⟩
  replace h := ite_f b112 h
  refine T_skip ?_
  obtain ⟨r_113, e114, h⟩ := bd_inv h
  refine T_reg (hl 5 [(4, (zd (.tup [(.sl 1 (r_113.1.map elI)), (.sl 1 (r_113.2.1.map elI)), (I r_113.2.2)])))]) [8, 10, 11, 12, 13, 14, 22, 24] [20] (mk 163 [(8, (rf 8 0)), (10, (rf 10 0)), (11, (rf 11 0)), (12, (rf 12 0)), (13, (rf 13 0)), (14, (.one (.fn 46 [.inl 13, .inl 12]))), (22, (dt (.sl 1 (r_113.1.map elI)))), (24, (di r_113.2.2))] [(8, (.var (qLeague r_4.1))), (10, (.var [(.dat (.sl 1 (r_7.1.map elI)))])), (11, (.var [(.dat (.sl 1 (r_7.2.1.map elI)))])), (12, (.var [(.dat (I ((v_10 : Nat) : Int)))])), (13, (.var [(.own 46)])), (46, (.map Tryz.prog 3 4 (mapS m_11)))]) _ (by kernel_rfl) (z8 (z1 (zc (g_prizes_Moves_ret e114) (z8 (z6 zt))))) ?_
  refine T_seq ?_
  refine T_reg [] [8, 10, 11, 12, 13, 14, 22, 24, 135] [] (mk 163 [(8, (rf 8 0)), (10, (rf 10 0)), (11, (rf 11 0)), (12, (rf 12 0)), (13, (rf 13 0)), (14, (.one (.fn 46 [.inl 13, .inl 12]))), (22, (dt (.sl 1 (r_113.1.map elI)))), (24, (di r_113.2.2)), (135, (db (r_113.2.2 != 0)))] [(8, (.var (qLeague r_4.1))), (10, (.var [(.dat (.sl 1 (r_7.1.map elI)))])), (11, (.var [(.dat (.sl 1 (r_7.2.1.map elI)))])), (12, (.var [(.dat (I ((v_10 : Nat) : Int)))])), (13, (.var [(.own 46)])), (46, (.map Tryz.prog 3 4 (mapS m_11)))]) _ (by kernel_rfl) (z4 zt) ?_
  refine T_cond (r_113.2.2 != 0) (by kernel_rfl) (fun b115 => ?_) (fun b115 => ?_)
  replace h := ite_t b115 h
  refine T_reg [] [6, 7] [8, 10, 11, 12, 13, 46] (mk 163 [(6, (dt nilS)), (7, (di r_113.2.2))] []) _ (by kernel_rfl) (z6 zt) ?_
  refine T_ret ?_
  obtain rfl := some_inv h
  exact ret_here [(dt nilS), (di r_113.2.2)] (by kernel_rfl) ⟨(.inr ⟨rfl, 1, rfl⟩), (.inl rfl), trivial⟩
  replace h := ite_f b115 h
  refine T_skip ?_
  refine T_parts ?_
  refine TL_part 2 [] (mk 163 [(8, (rf 8 0)), (10, (rf 10 0)), (11, (rf 11 0)), (12, (rf 12 0)), (13, (rf 13 0)), (14, (.one (.fn 46 [.inl 13, .inl 12]))), (22, (dt (.sl 1 (r_113.1.map elI)))), (24, (di r_113.2.2)), (135, (db (r_113.2.2 != 0))), (137, (.one (.fn 46 [.inl 13, .inl 12]))), (138, (dt (.sl 1 (r_113.1.map elI))))] [(8, (.var (qLeague r_4.1))), (10, (.var [(.dat (.sl 1 (r_7.1.map elI)))])), (11, (.var [(.dat (.sl 1 (r_7.2.1.map elI)))])), (12, (.var [(.dat (I ((v_10 : Nat) : Int)))])), (13, (.var [(.own 46)])), (46, (.map Tryz.prog 3 4 (mapS m_11)))]) _ (by kernel_rfl) (z4 zt) rfl ?_
  refine TL_consJ (α := Nat × (List Int)) (fun ((v_116, m_117) : Nat × (List Int)) => (mk 163 [(8, (rf 8 0)), (10, (rf 10 0)), (11, (rf 11 0)), (12, (rf 12 0)), (13, (rf 13 0)), (14, (.one (.fn 46 [.inl 13, .inl 12]))), (139, (.tup []))] [(8, (.var (qLeague r_4.1))), (10, (.var [(.dat (.sl 1 (r_7.1.map elI)))])), (11, (.var [(.dat (.sl 1 (r_7.2.1.map elI)))])), (12, (.var [(.dat (I ((v_116 : Nat) : Int)))])), (13, (.var [(.own 46)])), (46, (.map Tryz.prog 3 4 (mapS m_117)))])) (fun ((v_116, m_117) : Nat × (List Int)) => g_prizes_Next_j19 r_4 r_7 v_116 m_117 = some r) (fun v h => ?_) ?_
  obtain ⟨v_116, m_117⟩ := v
  refine TL_turn [] [8, 10, 11, 12, 13, 14, 139] [] (mk 163 [(8, (rf 8 0)), (10, (rf 10 0)), (11, (rf 11 0)), (12, (rf 12 0)), (13, (rf 13 0)), (14, (.one (.fn 46 [.inl 13, .inl 12]))), (139, (.tup []))] [(8, (.var (qLeague r_4.1))), (10, (.var [(.dat (.sl 1 (r_7.1.map elI)))])), (11, (.var [(.dat (.sl 1 (r_7.2.1.map elI)))])), (12, (.var [(.dat (I ((v_116 : Nat) : Int)))])), (13, (.var [(.own 46)])), (46, (.map Tryz.prog 3 4 (mapS m_117)))]) (by kernel_rfl) ?_
  refine TL_nilQ ?_
  exact Exists.intro (v_116, m_117) (And.intro h (arr [] [8, 10, 11, 12, 13, 14] [] [8, 10, 11, 12, 13, 46] (by kernel_rfl)))
  refine TL_inline 163 46 [.inl 13, .inl 12] Tryz.f46 _ rfl rfl (by kernel_rfl) Tryz.func46 rfl rfl (by decide) ?_
  refine T_turn [] [0, 1, 2] [] (mk 17 [(0, (dt (.sl 1 (r_113.1.map elI)))), (1, (rf 13 0)), (2, (rf 12 0))] [(8, (.var (qLeague r_4.1))), (10, (.var [(.dat (.sl 1 (r_7.1.map elI)))])), (11, (.var [(.dat (.sl 1 (r_7.2.1.map elI)))])), (12, (.var [(.dat (I ((v_10 : Nat) : Int)))])), (13, (.var [(.own 46)])), (46, (.map Tryz.prog 3 4 (mapS m_11)))]) (by kernel_rfl) ?_
  refine T_reg [zn, (zd (I ((r_113.1.length : Nat) : Int)))] [1, 2, 6, 7, 8] [] (mk 17 [(1, (rf 13 0)), (2, (rf 12 0)), (6, (dt (.sl 1 (r_113.1.map elI)))), (7, (di ((r_113.1.length : Nat) : Int))), (8, (di 0))] [(8, (.var (qLeague r_4.1))), (10, (.var [(.dat (.sl 1 (r_7.1.map elI)))])), (11, (.var [(.dat (.sl 1 (r_7.2.1.map elI)))])), (12, (.var [(.dat (I ((v_10 : Nat) : Int)))])), (13, (.var [(.own 46)])), (46, (.map Tryz.prog 3 4 (mapS m_11)))]) _ (by kernel_rfl) (z3 (zc (len_s elI r_113.1) (z2 zt))) ?_
  refine T_block ?_
  refine T_arr [] [1, 2, 6, 7, 8] [] [8, 10, 11, 12, 13, 46] _ (by kernel_rfl) (T_loopO (σ := Nat × Nat × (List Int)) (fun ((v_118, v_119, m_120) : Nat × Nat × (List Int)) => (mk 17 [(1, (rf 13 0)), (2, (rf 12 0)), (6, (dt (.sl 1 (r_113.1.map elI)))), (7, (di ((r_113.1.length : Nat) : Int))), (8, (di ((v_118 : Nat) : Int)))] [(8, (.var (qLeague r_4.1))), (10, (.var [(.dat (.sl 1 (r_7.1.map elI)))])), (11, (.var [(.dat (.sl 1 (r_7.2.1.map elI)))])), (12, (.var [(.dat (I ((v_119 : Nat) : Int)))])), (13, (.var [(.own 46)])), (46, (.map Tryz.prog 3 4 (mapS m_120)))])) (g_prizes_Next_l20 r_113 r_4 r_7) (0, v_10, m_11) h (fun v y1 hy1 h => ?_))
  obtain ⟨v_118, v_119, m_120⟩ := v
  refine T_reg [] [1, 2, 6, 7, 8, 9] [] (mk 17 [(1, (rf 13 0)), (2, (rf 12 0)), (6, (dt (.sl 1 (r_113.1.map elI)))), (7, (di ((r_113.1.length : Nat) : Int))), (8, (di ((v_118 : Nat) : Int))), (9, (db (decide (((v_118 : Nat) : Int) < ((r_113.1.length : Nat) : Int)))))] [(8, (.var (qLeague r_4.1))), (10, (.var [(.dat (.sl 1 (r_7.1.map elI)))])), (11, (.var [(.dat (.sl 1 (r_7.2.1.map elI)))])), (12, (.var [(.dat (I ((v_119 : Nat) : Int)))])), (13, (.var [(.own 46)])), (46, (.map Tryz.prog 3 4 (mapS m_120)))]) _ (by kernel_rfl) (z2 zt) ?_
  refine T_seq ?_
  refine T_cond (decide (((v_118 : Nat) : Int) < ((r_113.1.length : Nat) : Int))) (by kernel_rfl) (fun b124 => ?_) (fun b124 => ?_)
  replace h := ite_t b124 h
  refine T_skip ?_
  refine T_seq ?_
  refine T_block ?_
  obtain ⟨x_125, e126, e127, e128, h⟩ := gn_inv elI h
  refine T_reg [(zd (I x_125))] [1, 2, 5, 6, 7, 8] [] (mk 17 [(1, (rf 13 0)), (2, (rf 12 0)), (5, (di x_125)), (6, (dt (.sl 1 (r_113.1.map elI)))), (7, (di ((r_113.1.length : Nat) : Int))), (8, (di ((v_118 : Nat) : Int)))] [(8, (.var (qLeague r_4.1))), (10, (.var [(.dat (.sl 1 (r_7.1.map elI)))])), (11, (.var [(.dat (.sl 1 (r_7.2.1.map elI)))])), (12, (.var [(.dat (I ((v_119 : Nat) : Int)))])), (13, (.var [(.own 46)])), (46, (.map Tryz.prog 3 4 (mapS m_120)))]) _ (by kernel_rfl) (z1 (zc e126 (z4 zt))) ?_
  refine T_seq (T_parts ?_)
  refine TL_part 2 [] (mk 17 [(1, (rf 13 0)), (2, (rf 12 0)), (5, (di x_125)), (6, (dt (.sl 1 (r_113.1.map elI)))), (7, (di ((r_113.1.length : Nat) : Int))), (8, (di ((v_118 : Nat) : Int))), (12, (ow 46)), (13, (di x_125))] [(8, (.var (qLeague r_4.1))), (10, (.var [(.dat (.sl 1 (r_7.1.map elI)))])), (11, (.var [(.dat (.sl 1 (r_7.2.1.map elI)))])), (12, (.var [(.dat (I ((v_119 : Nat) : Int)))])), (13, (.var [(.own 46)])), (46, (.map Tryz.prog 3 4 (mapS m_120)))]) _ (by kernel_rfl) (z4 zt) rfl ?_
  obtain ⟨c129, h⟩ := ckI_in h
  obtain ⟨c130, h⟩ := ck_inv h
  refine TL_setPut 85 3 4 46 _ _ _ m_120 x_125 rfl rfl (by kernel_rfl) (by kernel_rfl) (by kernel_rfl) (by kernel_rfl) (by kernel_rfl) (by kernel_rfl) (by kernel_rfl) c129 c130 ?_
  refine TL_turn [] [1, 2, 6, 7, 8] [] (mk 17 [(1, (rf 13 0)), (2, (rf 12 0)), (6, (dt (.sl 1 (r_113.1.map elI)))), (7, (di ((r_113.1.length : Nat) : Int))), (8, (di ((v_118 : Nat) : Int)))] [(8, (.var (qLeague r_4.1))), (10, (.var [(.dat (.sl 1 (r_7.1.map elI)))])), (11, (.var [(.dat (.sl 1 (r_7.2.1.map elI)))])), (12, (.var [(.dat (I ((v_119 : Nat) : Int)))])), (13, (.var [(.own 46)])), (46, (.map Tryz.prog 3 4 (mapS (sput m_120 x_125))))]) (by kernel_rfl) ?_
  refine TL_nilQ ?_
  refine T_turn [] [1, 2, 6, 7, 8] [] (mk 17 [(1, (rf 13 0)), (2, (rf 12 0)), (6, (dt (.sl 1 (r_113.1.map elI)))), (7, (di ((r_113.1.length : Nat) : Int))), (8, (di ((v_118 : Nat) : Int)))] [(8, (.var (qLeague r_4.1))), (10, (.var [(.dat (.sl 1 (r_7.1.map elI)))])), (11, (.var [(.dat (.sl 1 (r_7.2.1.map elI)))])), (12, (.var [(.dat (I ((v_119 : Nat) : Int)))])), (13, (.var [(.own 46)])), (46, (.map Tryz.prog 3 4 (mapS (sput m_120 x_125))))]) (by kernel_rfl) ?_
  obtain ⟨c131, h⟩ := ckI_inv h
  refine T_regE [zn, (zd (I ((v_119 + 1 : Nat) : Int)))] (mk 17 [(1, (rf 13 0)), (2, (rf 12 0)), (6, (dt (.sl 1 (r_113.1.map elI)))), (7, (di ((r_113.1.length : Nat) : Int))), (8, (di ((v_118 : Nat) : Int))), (14, (di ((v_119 : Nat) : Int))), (15, (di ((v_119 + 1 : Nat) : Int)))] [(8, (.var (qLeague r_4.1))), (10, (.var [(.dat (.sl 1 (r_7.1.map elI)))])), (11, (.var [(.dat (.sl 1 (r_7.2.1.map elI)))])), (12, (.var [(.dat (I ((v_119 + 1 : Nat) : Int)))])), (13, (.var [(.own 46)])), (46, (.map Tryz.prog 3 4 (mapS (sput m_120 x_125))))]) _ (by kernel_rfl) (z3 (zc c131 (z2 zt))) ?_
  obtain ⟨c132, h⟩ := ckI_inv h
  exact T_regJ [(zd (I ((v_118 + 1 : Nat) : Int)))] [] [1, 2, 6, 7, 8] [] [8, 10, 11, 12, 13, 46] _ _ (by kernel_rfl) (z1 (zc c132 (z2 zt))) (fun s hs => Exists.intro (v_118 + 1, v_119 + 1, (sput m_120 x_125)) (And.intro h hs))
  replace h := ite_f b124 h
  refine T_exit ?_
  replace h := up_inv h hy1
  refine ⟨[], by kernel_rfl, ?_⟩
  refine TL_nilQ ?_
  exact Exists.intro (v_119, m_120) (And.intro h (arr [] [8, 10, 11, 12, 13, 14, 139] [] [8, 10, 11, 12, 13, 46] (by kernel_rfl)))
  rcases Bool.eq_false_or_eq_true (!(r_109.2)) with b133 | b133
  replace h := ite_t b133 h
  exact T_regJ [zn, zn, zn, zg, zg, zg, zg, zg, zg, zg, (zd (B true)), zn, zg, zg, zg, zg, zg, (zd (B true))] [] [8, 10, 11, 12, 13, 14, 20, 124] [] [8, 10, 11, 12, 13, 20, 46] _ _ (by kernel_rfl) (z6 (zc (gd_tf b133) (zc (gd_tf b133) (zc (gd_tf b133) (zc (gd_tf b133) (zc (gd_tf b133) (zc (gd_tf b133) (zc (gd_tf b133) (z1 (zc b133 (z2 (zc (gd_tf (rfl : true = true)) (zc (gd_tf (rfl : true = true)) (zc (gd_tf (rfl : true = true)) (zc (gd_tf (rfl : true = true)) (zc (gd_tf (rfl : true = true)) (z1 (zc (rfl : true = true) zt)))))))))))))))))) (fun s hs => Exists.intro true (And.intro h hs))
  replace h := ite_f b133 h
  rcases Bool.eq_false_or_eq_true (r_109.1.table.s != r_4.1.table.s) with b134 | b134
  replace h := ite_t b134 h
  exact T_regJ [zn, zn, zn, zn, zn, zn, zn, zn, zn, zn, (zd (B false)), zn, zg, zg, zg, zg, zg, (zd (B true))] [] [8, 10, 11, 12, 13, 14, 20, 124] [] [8, 10, 11, 12, 13, 20, 46] _ _ (by kernel_rfl) (z6 (zc (gd_ff b133) (z1 (zc (gd_ff b133) (z1 (zc (gd_ff b133) (z1 (zc (gd_ff b133) (z1 (zc (gd_ff b133) (z1 (zc (gd_ff b133) (z1 (zc (gd_ff b133) (z2 (zc b133 (z2 (zc (gd_tf b134) (zc (gd_tf b134) (zc (gd_tf b134) (zc (gd_tf b134) (zc (gd_tf b134) (z1 (zc b134 zt)))))))))))))))))))))))) (fun s hs => Exists.intro true (And.intro h hs))
  replace h := ite_f b134 h
  exact T_regJ (hl 18 [(10, (zd (B false))), (17, (zd (B false)))]) [] [8, 10, 11, 12, 13, 14, 20, 124] [] [8, 10, 11, 12, 13, 20, 46] _ _ (by kernel_rfl) (z6 (zc (gd_ff b133) (z1 (zc (gd_ff b133) (z1 (zc (gd_ff b133) (z1 (zc (gd_ff b133) (z1 (zc (gd_ff b133) (z1 (zc (gd_ff b133) (z1 (zc (gd_ff b133) (z2 (zc b133 (z2 (zc (gd_ff b134) (z1 (zc (gd_ff b134) (z1 (zc (gd_ff b134) (z1 (zc (gd_ff b134) (z1 (zc (gd_ff b134) (z2 (zc b134 zt)))))))))))))))))))))))))))) (fun s hs => Exists.intro (r_109.1.scheme.ab != comp_3) (And.intro h hs))
  replace h := ite_f b108 h
  refine T_skip ?_
  exact Exists.intro (v_10, m_11) (And.intro h (arr [] [8, 10, 11, 12, 13, 14] [] [8, 10, 11, 12, 13, 46] (by kernel_rfl)))
  refine T_reg [] [0, 1, 2, 8, 10, 11, 12, 13, 14, 51] [] (mk 163 [(0, (dt (.sl 3 (tables_1.map encTab)))), (1, (dt (.sl 6 (schemes_2.map encSch)))), (2, (di comp_3)), (8, (rf 8 0)), (10, (rf 10 0)), (11, (rf 11 0)), (12, (rf 12 0)), (13, (rf 13 0)), (14, (.one (.fn 46 [.inl 13, .inl 12]))), (51, (db (r_4.1.scheme.ab != (-1))))] [(13, (.var [(.own 46)])), (46, (.map Tryz.prog 3 4 (mapS ([] : List Int)))), (12, (.var [(.dat (I 0))])), (11, (.var [(.dat (.sl 1 (r_7.2.1.map elI)))])), (10, (.var [(.dat (.sl 1 (r_7.1.map elI)))])), (8, (.var (qLeague r_4.1)))]) _ (by kernel_rfl) (z8 zt) ?_
  refine T_cond (r_4.1.scheme.ab != (-1)) (by kernel_rfl) (fun b135 => ?_) (fun b135 => ?_)
  replace h := ite_t b135 h
  obtain ⟨r_136, e137, h⟩ := bd_inv h
  refine T_reg (hl 6 [(5, (zd (.tup [(encLeague r_136.1), (B (r_136.2))])))]) [0, 1, 2, 8, 10, 11, 12, 13, 14, 15, 16] [] (mk 163 [(0, (dt (.sl 3 (tables_1.map encTab)))), (1, (dt (.sl 6 (schemes_2.map encSch)))), (2, (di comp_3)), (8, (rf 8 0)), (10, (rf 10 0)), (11, (rf 11 0)), (12, (rf 12 0)), (13, (rf 13 0)), (14, (.one (.fn 46 [.inl 13, .inl 12]))), (15, (rf 15 0)), (16, (db (r_136.2)))] [(15, (.var (qLeague r_136.1))), (13, (.var [(.own 46)])), (46, (.map Tryz.prog 3 4 (mapS ([] : List Int)))), (12, (.var [(.dat (I 0))])), (11, (.var [(.dat (.sl 1 (r_7.2.1.map elI)))])), (10, (.var [(.dat (.sl 1 (r_7.1.map elI)))])), (8, (.var (qLeague r_4.1)))]) _ (by kernel_rfl) (z8 (z3 (zc (g_prizes_of_ret e137) (z8 (z4 zt))))) ?_
  refine T_seq ?_
  refine T_seqJ (α := Bool) (fun (v_138 : Bool) => (mk 163 [(0, (dt (.sl 3 (tables_1.map encTab)))), (1, (dt (.sl 6 (schemes_2.map encSch)))), (2, (di comp_3)), (8, (rf 8 0)), (10, (rf 10 0)), (11, (rf 11 0)), (12, (rf 12 0)), (13, (rf 13 0)), (14, (.one (.fn 46 [.inl 13, .inl 12]))), (15, (rf 15 0)), (78, (db (v_138)))] [(8, (.var (qLeague r_4.1))), (10, (.var [(.dat (.sl 1 (r_7.1.map elI)))])), (11, (.var [(.dat (.sl 1 (r_7.2.1.map elI)))])), (12, (.var [(.dat (I 0))])), (13, (.var [(.own 46)])), (15, (.var (qLeague r_136.1))), (46, (.map Tryz.prog 3 4 (mapS ([] : List Int))))])) (fun (v_138 : Bool) => g_prizes_Next_j21 r_136 r_4 tables_1 schemes_2 r_7 comp_3 v_138 = some r) (fun v_138 h => ?_) ?_
  refine T_cond (v_138) (by kernel_rfl) (fun b139 => ?_) (fun b139 => ?_)
  replace h := ite_t b139 h
  refine T_reg [] [6, 7] [8, 10, 11, 12, 13, 15, 46] (mk 163 [(6, (dt nilS)), (7, (di 420))] []) _ (by kernel_rfl) (z4 zt) ?_
  refine T_ret ?_
  obtain rfl := some_inv h
  exact ret_here [(dt nilS), (di 420)] (by kernel_rfl) ⟨(.inr ⟨rfl, 1, rfl⟩), (.inl rfl), trivial⟩
  replace h := ite_f b139 h
  refine T_skip ?_
  obtain ⟨r_140, e141, h⟩ := bd_inv h
  refine T_reg (hl 5 [(4, (zd (.tup [(.sl 1 (r_140.1.map elI)), (.sl 1 (r_140.2.1.map elI)), (I r_140.2.2)])))]) [0, 1, 2, 8, 10, 11, 12, 13, 14, 18, 19] [15] (mk 163 [(0, (dt (.sl 3 (tables_1.map encTab)))), (1, (dt (.sl 6 (schemes_2.map encSch)))), (2, (di comp_3)), (8, (rf 8 0)), (10, (rf 10 0)), (11, (rf 11 0)), (12, (rf 12 0)), (13, (rf 13 0)), (14, (.one (.fn 46 [.inl 13, .inl 12]))), (18, (dt (.sl 1 (r_140.2.1.map elI)))), (19, (di r_140.2.2))] [(8, (.var (qLeague r_4.1))), (10, (.var [(.dat (.sl 1 (r_7.1.map elI)))])), (11, (.var [(.dat (.sl 1 (r_7.2.1.map elI)))])), (12, (.var [(.dat (I 0))])), (13, (.var [(.own 46)])), (46, (.map Tryz.prog 3 4 (mapS ([] : List Int))))]) _ (by kernel_rfl) (z8 (z1 (zc (g_prizes_Moves_ret e141) (z8 (z6 zt))))) ?_
  refine T_seq ?_
  refine T_reg [] [0, 1, 2, 8, 10, 11, 12, 13, 14, 18, 19, 89] [] (mk 163 [(0, (dt (.sl 3 (tables_1.map encTab)))), (1, (dt (.sl 6 (schemes_2.map encSch)))), (2, (di comp_3)), (8, (rf 8 0)), (10, (rf 10 0)), (11, (rf 11 0)), (12, (rf 12 0)), (13, (rf 13 0)), (14, (.one (.fn 46 [.inl 13, .inl 12]))), (18, (dt (.sl 1 (r_140.2.1.map elI)))), (19, (di r_140.2.2)), (89, (db (r_140.2.2 != 0)))] [(8, (.var (qLeague r_4.1))), (10, (.var [(.dat (.sl 1 (r_7.1.map elI)))])), (11, (.var [(.dat (.sl 1 (r_7.2.1.map elI)))])), (12, (.var [(.dat (I 0))])), (13, (.var [(.own 46)])), (46, (.map Tryz.prog 3 4 (mapS ([] : List Int))))]) _ (by kernel_rfl) (z4 zt) ?_
  refine T_cond (r_140.2.2 != 0) (by kernel_rfl) (fun b142 => ?_) (fun b142 => ?_)
  replace h := ite_t b142 h
  refine T_reg [] [6, 7] [8, 10, 11, 12, 13, 46] (mk 163 [(6, (dt nilS)), (7, (di r_140.2.2))] []) _ (by kernel_rfl) (z6 zt) ?_
  refine T_ret ?_
  obtain rfl := some_inv h
  exact ret_here [(dt nilS), (di r_140.2.2)] (by kernel_rfl) ⟨(.inr ⟨rfl, 1, rfl⟩), (.inl rfl), trivial⟩
  replace h := ite_f b142 h
  refine T_skip ?_
  refine T_parts ?_
  refine TL_part 2 [] (mk 163 [(0, (dt (.sl 3 (tables_1.map encTab)))), (1, (dt (.sl 6 (schemes_2.map encSch)))), (2, (di comp_3)), (8, (rf 8 0)), (10, (rf 10 0)), (11, (rf 11 0)), (12, (rf 12 0)), (13, (rf 13 0)), (14, (.one (.fn 46 [.inl 13, .inl 12]))), (18, (dt (.sl 1 (r_140.2.1.map elI)))), (19, (di r_140.2.2)), (89, (db (r_140.2.2 != 0))), (91, (.one (.fn 46 [.inl 13, .inl 12]))), (92, (dt (.sl 1 (r_140.2.1.map elI))))] [(8, (.var (qLeague r_4.1))), (10, (.var [(.dat (.sl 1 (r_7.1.map elI)))])), (11, (.var [(.dat (.sl 1 (r_7.2.1.map elI)))])), (12, (.var [(.dat (I 0))])), (13, (.var [(.own 46)])), (46, (.map Tryz.prog 3 4 (mapS ([] : List Int))))]) _ (by kernel_rfl) (z4 zt) rfl ?_
  refine TL_consJ (α := Nat × (List Int)) (fun ((v_143, m_144) : Nat × (List Int)) => (mk 163 [(0, (dt (.sl 3 (tables_1.map encTab)))), (1, (dt (.sl 6 (schemes_2.map encSch)))), (2, (di comp_3)), (8, (rf 8 0)), (10, (rf 10 0)), (11, (rf 11 0)), (12, (rf 12 0)), (13, (rf 13 0)), (14, (.one (.fn 46 [.inl 13, .inl 12]))), (93, (.tup []))] [(8, (.var (qLeague r_4.1))), (10, (.var [(.dat (.sl 1 (r_7.1.map elI)))])), (11, (.var [(.dat (.sl 1 (r_7.2.1.map elI)))])), (12, (.var [(.dat (I ((v_143 : Nat) : Int)))])), (13, (.var [(.own 46)])), (46, (.map Tryz.prog 3 4 (mapS m_144)))])) (fun ((v_143, m_144) : Nat × (List Int)) => g_prizes_Next_j22 r_4 tables_1 schemes_2 r_7 comp_3 v_143 m_144 = some r) (fun v h => ?_) ?_
  obtain ⟨v_143, m_144⟩ := v
  refine TL_turn [] [0, 1, 2, 8, 10, 11, 12, 13, 14, 93] [] (mk 163 [(0, (dt (.sl 3 (tables_1.map encTab)))), (1, (dt (.sl 6 (schemes_2.map encSch)))), (2, (di comp_3)), (8, (rf 8 0)), (10, (rf 10 0)), (11, (rf 11 0)), (12, (rf 12 0)), (13, (rf 13 0)), (14, (.one (.fn 46 [.inl 13, .inl 12]))), (93, (.tup []))] [(8, (.var (qLeague r_4.1))), (10, (.var [(.dat (.sl 1 (r_7.1.map elI)))])), (11, (.var [(.dat (.sl 1 (r_7.2.1.map elI)))])), (12, (.var [(.dat (I ((v_143 : Nat) : Int)))])), (13, (.var [(.own 46)])), (46, (.map Tryz.prog 3 4 (mapS m_144)))]) (by kernel_rfl) ?_
  refine TL_nilQ ?_
  exact Exists.intro (v_143, m_144) (And.intro h (arr [] [0, 1, 2, 8, 10, 11, 12, 13, 14] [] [8, 10, 11, 12, 13, 46] (by kernel_rfl)))
  refine TL_inline 163 46 [.inl 13, .inl 12] Tryz.f46 _ rfl rfl (by kernel_rfl) Tryz.func46 rfl rfl (by decide) ?_
  refine T_turn [] [0, 1, 2] [] (mk 17 [(0, (dt (.sl 1 (r_140.2.1.map elI)))), (1, (rf 13 0)), (2, (rf 12 0))] [(8, (.var (qLeague r_4.1))), (10, (.var [(.dat (.sl 1 (r_7.1.map elI)))])), (11, (.var [(.dat (.sl 1 (r_7.2.1.map elI)))])), (12, (.var [(.dat (I 0))])), (13, (.var [(.own 46)])), (46, (.map Tryz.prog 3 4 (mapS ([] : List Int))))]) (by kernel_rfl) ?_
  refine T_reg [zn, (zd (I ((r_140.2.1.length : Nat) : Int)))] [1, 2, 6, 7, 8] [] (mk 17 [(1, (rf 13 0)), (2, (rf 12 0)), (6, (dt (.sl 1 (r_140.2.1.map elI)))), (7, (di ((r_140.2.1.length : Nat) : Int))), (8, (di 0))] [(8, (.var (qLeague r_4.1))), (10, (.var [(.dat (.sl 1 (r_7.1.map elI)))])), (11, (.var [(.dat (.sl 1 (r_7.2.1.map elI)))])), (12, (.var [(.dat (I 0))])), (13, (.var [(.own 46)])), (46, (.map Tryz.prog 3 4 (mapS ([] : List Int))))]) _ (by kernel_rfl) (z3 (zc (len_s elI r_140.2.1) (z2 zt))) ?_
  refine T_block ?_
  refine T_arr [] [1, 2, 6, 7, 8] [] [8, 10, 11, 12, 13, 46] _ (by kernel_rfl) (T_loopO (σ := Nat × Nat × (List Int)) (fun ((v_145, v_146, m_147) : Nat × Nat × (List Int)) => (mk 17 [(1, (rf 13 0)), (2, (rf 12 0)), (6, (dt (.sl 1 (r_140.2.1.map elI)))), (7, (di ((r_140.2.1.length : Nat) : Int))), (8, (di ((v_145 : Nat) : Int)))] [(8, (.var (qLeague r_4.1))), (10, (.var [(.dat (.sl 1 (r_7.1.map elI)))])), (11, (.var [(.dat (.sl 1 (r_7.2.1.map elI)))])), (12, (.var [(.dat (I ((v_146 : Nat) : Int)))])), (13, (.var [(.own 46)])), (46, (.map Tryz.prog 3 4 (mapS m_147)))])) (g_prizes_Next_l23 r_140 r_4 tables_1 schemes_2 r_7 comp_3) (0, 0, ([] : List Int)) h (fun v y1 hy1 h => ?_))
  obtain ⟨v_145, v_146, m_147⟩ := v
  refine T_reg [] [1, 2, 6, 7, 8, 9] [] (mk 17 [(1, (rf 13 0)), (2, (rf 12 0)), (6, (dt (.sl 1 (r_140.2.1.map elI)))), (7, (di ((r_140.2.1.length : Nat) : Int))), (8, (di ((v_145 : Nat) : Int))), (9, (db (decide (((v_145 : Nat) : Int) < ((r_140.2.1.length : Nat) : Int)))))] [(8, (.var (qLeague r_4.1))), (10, (.var [(.dat (.sl 1 (r_7.1.map elI)))])), (11, (.var [(.dat (.sl 1 (r_7.2.1.map elI)))])), (12, (.var [(.dat (I ((v_146 : Nat) : Int)))])), (13, (.var [(.own 46)])), (46, (.map Tryz.prog 3 4 (mapS m_147)))]) _ (by kernel_rfl) (z2 zt) ?_
  refine T_seq ?_
  refine T_cond (decide (((v_145 : Nat) : Int) < ((r_140.2.1.length : Nat) : Int))) (by kernel_rfl) (fun b151 => ?_) (fun b151 => ?_)
  replace h := ite_t b151 h
  refine T_skip ?_
  refine T_seq ?_
  refine T_block ?_
  obtain ⟨x_152, e153, e154, e155, h⟩ := gn_inv elI h
  refine T_reg [(zd (I x_152))] [1, 2, 5, 6, 7, 8] [] (mk 17 [(1, (rf 13 0)), (2, (rf 12 0)), (5, (di x_152)), (6, (dt (.sl 1 (r_140.2.1.map elI)))), (7, (di ((r_140.2.1.length : Nat) : Int))), (8, (di ((v_145 : Nat) : Int)))] [(8, (.var (qLeague r_4.1))), (10, (.var [(.dat (.sl 1 (r_7.1.map elI)))])), (11, (.var [(.dat (.sl 1 (r_7.2.1.map elI)))])), (12, (.var [(.dat (I ((v_146 : Nat) : Int)))])), (13, (.var [(.own 46)])), (46, (.map Tryz.prog 3 4 (mapS m_147)))]) _ (by kernel_rfl) (z1 (zc e153 (z4 zt))) ?_
  refine T_seq (T_parts ?_)
  refine TL_part 2 [] (mk 17 [(1, (rf 13 0)), (2, (rf 12 0)), (5, (di x_152)), (6, (dt (.sl 1 (r_140.2.1.map elI)))), (7, (di ((r_140.2.1.length : Nat) : Int))), (8, (di ((v_145 : Nat) : Int))), (12, (ow 46)), (13, (di x_152))] [(8, (.var (qLeague r_4.1))), (10, (.var [(.dat (.sl 1 (r_7.1.map elI)))])), (11, (.var [(.dat (.sl 1 (r_7.2.1.map elI)))])), (12, (.var [(.dat (I ((v_146 : Nat) : Int)))])), (13, (.var [(.own 46)])), (46, (.map Tryz.prog 3 4 (mapS m_147)))]) _ (by kernel_rfl) (z4 zt) rfl ?_
  obtain ⟨c156, h⟩ := ckI_in h
  obtain ⟨c157, h⟩ := ck_inv h
  refine TL_setPut 85 3 4 46 _ _ _ m_147 x_152 rfl rfl (by kernel_rfl) (by kernel_rfl) (by kernel_rfl) (by kernel_rfl) (by kernel_rfl) (by kernel_rfl) (by kernel_rfl) c156 c157 ?_
  refine TL_turn [] [1, 2, 6, 7, 8] [] (mk 17 [(1, (rf 13 0)), (2, (rf 12 0)), (6, (dt (.sl 1 (r_140.2.1.map elI)))), (7, (di ((r_140.2.1.length : Nat) : Int))), (8, (di ((v_145 : Nat) : Int)))] [(8, (.var (qLeague r_4.1))), (10, (.var [(.dat (.sl 1 (r_7.1.map elI)))])), (11, (.var [(.dat (.sl 1 (r_7.2.1.map elI)))])), (12, (.var [(.dat (I ((v_146 : Nat) : Int)))])), (13, (.var [(.own 46)])), (46, (.map Tryz.prog 3 4 (mapS (sput m_147 x_152))))]) (by kernel_rfl) ?_
  refine TL_nilQ ?_
  refine T_turn [] [1, 2, 6, 7, 8] [] (mk 17 [(1, (rf 13 0)), (2, (rf 12 0)), (6, (dt (.sl 1 (r_140.2.1.map elI)))), (7, (di ((r_140.2.1.length : Nat) : Int))), (8, (di ((v_145 : Nat) : Int)))] [(8, (.var (qLeague r_4.1))), (10, (.var [(.dat (.sl 1 (r_7.1.map elI)))])), (11, (.var [(.dat (.sl 1 (r_7.2.1.map elI)))])), (12, (.var [(.dat (I ((v_146 : Nat) : Int)))])), (13, (.var [(.own 46)])), (46, (.map Tryz.prog 3 4 (mapS (sput m_147 x_152))))]) (by kernel_rfl) ?_
  obtain ⟨c158, h⟩ := ckI_inv h
  refine T_regE [zn, (zd (I ((v_146 + 1 : Nat) : Int)))] (mk 17 [(1, (rf 13 0)), (2, (rf 12 0)), (6, (dt (.sl 1 (r_140.2.1.map elI)))), (7, (di ((r_140.2.1.length : Nat) : Int))), (8, (di ((v_145 : Nat) : Int))), (14, (di ((v_146 : Nat) : Int))), (15, (di ((v_146 + 1 : Nat) : Int)))] [(8, (.var (qLeague r_4.1))), (10, (.var [(.dat (.sl 1 (r_7.1.map elI)))])), (11, (.var [(.dat (.sl 1 (r_7.2.1.map elI)))])), (12, (.var [(.dat (I ((v_146 + 1 : Nat) : Int)))])), (13, (.var [(.own 46)])), (46, (.map Tryz.prog 3 4 (mapS (sput m_147 x_152))))]) _ (by kernel_rfl) (z3 (zc c158 (z2 zt))) ?_
  obtain ⟨c159, h⟩ := ckI_inv h
  exact T_regJ [(zd (I ((v_145 + 1 : Nat) : Int)))] [] [1, 2, 6, 7, 8] [] [8, 10, 11, 12, 13, 46] _ _ (by kernel_rfl) (z1 (zc c159 (z2 zt))) (fun s hs => Exists.intro (v_145 + 1, v_146 + 1, (sput m_147 x_152)) (And.intro h hs))
  replace h := ite_f b151 h
  refine T_exit ?_
  replace h := up_inv h hy1
  refine ⟨[], by kernel_rfl, ?_⟩
  refine TL_nilQ ?_
  exact Exists.intro (v_146, m_147) (And.intro h (arr [] [0, 1, 2, 8, 10, 11, 12, 13, 14, 93] [] [8, 10, 11, 12, 13, 46] (by kernel_rfl)))
  rcases Bool.eq_false_or_eq_true (!(r_136.2)) with b160 | b160
  replace h := ite_t b160 h
  exact T_regJ [zn, zn, zn, zg, zg, zg, zg, zg, zg, zg, (zd (B true)), zn, zg, zg, zg, zg, zg, (zd (B true))] [] [0, 1, 2, 8, 10, 11, 12, 13, 14, 15, 78] [] [8, 10, 11, 12, 13, 15, 46] _ _ (by kernel_rfl) (z6 (zc (gd_tf b160) (zc (gd_tf b160) (zc (gd_tf b160) (zc (gd_tf b160) (zc (gd_tf b160) (zc (gd_tf b160) (zc (gd_tf b160) (z1 (zc b160 (z2 (zc (gd_tf (rfl : true = true)) (zc (gd_tf (rfl : true = true)) (zc (gd_tf (rfl : true = true)) (zc (gd_tf (rfl : true = true)) (zc (gd_tf (rfl : true = true)) (z1 (zc (rfl : true = true) zt)))))))))))))))))) (fun s hs => Exists.intro true (And.intro h hs))
  replace h := ite_f b160 h
  rcases Bool.eq_false_or_eq_true (r_136.1.table.s != r_4.1.table.s) with b161 | b161
  replace h := ite_t b161 h
  exact T_regJ [zn, zn, zn, zn, zn, zn, zn, zn, zn, zn, (zd (B false)), zn, zg, zg, zg, zg, zg, (zd (B true))] [] [0, 1, 2, 8, 10, 11, 12, 13, 14, 15, 78] [] [8, 10, 11, 12, 13, 15, 46] _ _ (by kernel_rfl) (z6 (zc (gd_ff b160) (z1 (zc (gd_ff b160) (z1 (zc (gd_ff b160) (z1 (zc (gd_ff b160) (z1 (zc (gd_ff b160) (z1 (zc (gd_ff b160) (z1 (zc (gd_ff b160) (z2 (zc b160 (z2 (zc (gd_tf b161) (zc (gd_tf b161) (zc (gd_tf b161) (zc (gd_tf b161) (zc (gd_tf b161) (z1 (zc b161 zt)))))))))))))))))))))))) (fun s hs => Exists.intro true (And.intro h hs))
  replace h := ite_f b161 h
  exact T_regJ (hl 18 [(10, (zd (B false))), (17, (zd (B false)))]) [] [0, 1, 2, 8, 10, 11, 12, 13, 14, 15, 78] [] [8, 10, 11, 12, 13, 15, 46] _ _ (by kernel_rfl) (z6 (zc (gd_ff b160) (z1 (zc (gd_ff b160) (z1 (zc (gd_ff b160) (z1 (zc (gd_ff b160) (z1 (zc (gd_ff b160) (z1 (zc (gd_ff b160) (z1 (zc (gd_ff b160) (z2 (zc b160 (z2 (zc (gd_ff b161) (z1 (zc (gd_ff b161) (z1 (zc (gd_ff b161) (z1 (zc (gd_ff b161) (z1 (zc (gd_ff b161) (z2 (zc b161 zt)))))))))))))))))))))))))))) (fun s hs => Exists.intro (r_136.1.scheme.be != comp_3) (And.intro h hs))
  replace h := ite_f b135 h
  refine T_skip ?_
  exact Exists.intro (0, ([] : List Int)) (And.intro h (arr [] [0, 1, 2, 8, 10, 11, 12, 13, 14] [] [8, 10, 11, 12, 13, 46] (by kernel_rfl)))

end Go.Proofs.YtoiiblkncbnlaaaGreat

/-
  Go functions as partial functions, printed by auto.py: what each returns when its partial function has a value. Conditions: those of each theorem.
-/
namespace Go.Proofs.YtoiiblkncbnlaaaGreat
open Go.DL
set_option maxRecDepth 100000
set_option maxHeartbeats 4000000
set_option linter.unusedVariables false
set_option linter.unusedSimpArgs false
theorem g_ref42_Same_ret {a_1 : List Pay} {b_2 : List Pay} {r : Bool} (h : g_ref42_Same a_1 b_2 = some r) : Ret Tryz.prog 16 [(.sl 2 (a_1.map encPay)), (.sl 2 (b_2.map encPay))] (B (r)) := by
  refine Ret.of_T Tryz.func16 (by kernel_rfl) rfl ?_
  refine T_turn [] [0, 1] [] (mk 26 [(0, (dt (.sl 2 (a_1.map encPay)))), (1, (dt (.sl 2 (b_2.map encPay))))] []) (by kernel_rfl) ?_
  refine T_reg [] [0, 1] [] (mk 26 [(0, (dt (.sl 2 (a_1.map encPay)))), (1, (dt (.sl 2 (b_2.map encPay))))] []) _ (by kernel_rfl) (z2 zt) ?_
  refine T_seq ?_
  refine T_reg [zn, (zd (I ((a_1.length : Nat) : Int))), zn, (zd (I ((b_2.length : Nat) : Int)))] [0, 1, 10] [] (mk 26 [(0, (dt (.sl 2 (a_1.map encPay)))), (1, (dt (.sl 2 (b_2.map encPay)))), (10, (db (((a_1.length : Nat) : Int) != ((b_2.length : Nat) : Int))))] []) _ (by kernel_rfl) (z3 (zc (len_s encPay a_1) (z3 (zc (len_s encPay b_2) (z2 zt))))) ?_
  refine T_cond (((a_1.length : Nat) : Int) != ((b_2.length : Nat) : Int)) (by kernel_rfl) (fun b3 => ?_) (fun b3 => ?_)
  replace h := ite_t b3 h
  refine T_reg [] [4] [] (mk 26 [(4, (db false))] []) _ (by kernel_rfl) (z2 zt) ?_
  refine T_ret ?_
  obtain rfl := some_inv h
  exact ret_here [(db false)] (by kernel_rfl) (.inl rfl)
  replace h := ite_f b3 h
  refine T_skip ?_
  refine T_seqJ (α := Unit) (fun (_ : Unit) => (mk 26 [] [])) (fun (_ : Unit) => g_ref42_Same_j1 = some r) (fun v h => ?_) ?_
  refine T_reg [] [4] [] (mk 26 [(4, (db true))] []) _ (by kernel_rfl) (z2 zt) ?_
  refine T_ret ?_
  obtain rfl := some_inv h
  exact ret_here [(db true)] (by kernel_rfl) (.inl rfl)
  refine T_reg [] [0, 1, 5] [] (mk 26 [(0, (dt (.sl 2 (a_1.map encPay)))), (1, (dt (.sl 2 (b_2.map encPay)))), (5, (di 0))] []) _ (by kernel_rfl) (z2 zt) ?_
  refine T_block ?_
  refine T_arr [] [0, 1, 5] [] [] _ (by kernel_rfl) (T_loopO (σ := Nat) (fun (i_4 : Nat) => (mk 26 [(0, (dt (.sl 2 (a_1.map encPay)))), (1, (dt (.sl 2 (b_2.map encPay)))), (5, (di ((i_4 : Nat) : Int)))] [])) (g_ref42_Same_l2 a_1 b_2) 0 h (fun i_4 y1 hy1 h => ?_))
  refine T_seq ?_
  refine T_reg [zn, zn, (zd (I ((a_1.length : Nat) : Int)))] [0, 1, 5, 14] [] (mk 26 [(0, (dt (.sl 2 (a_1.map encPay)))), (1, (dt (.sl 2 (b_2.map encPay)))), (5, (di ((i_4 : Nat) : Int))), (14, (db (decide (((i_4 : Nat) : Int) < ((a_1.length : Nat) : Int)))))] []) _ (by kernel_rfl) (z5 (zc (len_s encPay a_1) (z2 zt))) ?_
  refine T_cond (decide (((i_4 : Nat) : Int) < ((a_1.length : Nat) : Int))) (by kernel_rfl) (fun b6 => ?_) (fun b6 => ?_)
  replace h := ite_t b6 h
  refine T_skip ?_
  refine T_seq ?_
  refine T_block ?_
  obtain ⟨x_7, e8, e9, e10, h⟩ := gn_inv encPay h
  obtain ⟨x_11, e12, e13, e14, h⟩ := gn_inv encPay h
  refine T_regD 9 (hl 7 [(2, (zd (encPay x_7))), (6, (zd (encPay x_11)))]) [0, 1, 5, 25] [] (mk 26 [(0, (dt (.sl 2 (a_1.map encPay)))), (1, (dt (.sl 2 (b_2.map encPay)))), (5, (di ((i_4 : Nat) : Int))), (25, (db (!((x_7.c == x_11.c) && ((x_7.a == x_11.a) && true)))))] []) _ (by kernel_rfl) (by kernel_rfl) (by kernel_rfl) (zc (z5 (zc e8 (z7 (zc e12 (z4 zt))))) zt) ?_
  refine T_cond (!((x_7.c == x_11.c) && ((x_7.a == x_11.a) && true))) (by kernel_rfl) (fun b15 => ?_) (fun b15 => ?_)
  replace h := ite_t b15 h
  refine T_reg [] [4] [] (mk 26 [(4, (db false))] []) _ (by kernel_rfl) (z2 zt) ?_
  refine T_ret ?_
  replace h := up_inv h hy1
  obtain rfl := some_inv h
  exact ret_here [(db false)] (by kernel_rfl) (.inl rfl)
  replace h := ite_f b15 h
  refine T_skip ?_
  obtain ⟨c16, h⟩ := ckI_inv h
  exact T_regJ [zn, (zd (I ((i_4 + 1 : Nat) : Int)))] [] [0, 1, 5] [] [] _ _ (by kernel_rfl) (z3 (zc c16 (z2 zt))) (fun s hs => Exists.intro (i_4 + 1) (And.intro h hs))
  replace h := ite_f b6 h
  refine T_exit ?_
  replace h := up_inv h hy1
  exact Exists.intro () (And.intro h (arr [] [] [] [] (by kernel_rfl)))

theorem g_ref42_SameInts_ret {a_1 : List Int} {b_2 : List Int} {r : Bool} (h : g_ref42_SameInts a_1 b_2 = some r) : Ret Tryz.prog 19 [(.sl 1 (a_1.map elI)), (.sl 1 (b_2.map elI))] (B (r)) := by
  refine Ret.of_T Tryz.func19 (by kernel_rfl) rfl ?_
  refine T_turn [] [0, 1] [] (mk 26 [(0, (dt (.sl 1 (a_1.map elI)))), (1, (dt (.sl 1 (b_2.map elI))))] []) (by kernel_rfl) ?_
  refine T_reg [] [0, 1] [] (mk 26 [(0, (dt (.sl 1 (a_1.map elI)))), (1, (dt (.sl 1 (b_2.map elI))))] []) _ (by kernel_rfl) (z2 zt) ?_
  refine T_seq ?_
  refine T_reg [zn, (zd (I ((a_1.length : Nat) : Int))), zn, (zd (I ((b_2.length : Nat) : Int)))] [0, 1, 10] [] (mk 26 [(0, (dt (.sl 1 (a_1.map elI)))), (1, (dt (.sl 1 (b_2.map elI)))), (10, (db (((a_1.length : Nat) : Int) != ((b_2.length : Nat) : Int))))] []) _ (by kernel_rfl) (z3 (zc (len_s elI a_1) (z3 (zc (len_s elI b_2) (z2 zt))))) ?_
  refine T_cond (((a_1.length : Nat) : Int) != ((b_2.length : Nat) : Int)) (by kernel_rfl) (fun b3 => ?_) (fun b3 => ?_)
  replace h := ite_t b3 h
  refine T_reg [] [4] [] (mk 26 [(4, (db false))] []) _ (by kernel_rfl) (z2 zt) ?_
  refine T_ret ?_
  obtain rfl := some_inv h
  exact ret_here [(db false)] (by kernel_rfl) (.inl rfl)
  replace h := ite_f b3 h
  refine T_skip ?_
  refine T_seqJ (α := Unit) (fun (_ : Unit) => (mk 26 [] [])) (fun (_ : Unit) => g_ref42_SameInts_j1 = some r) (fun v h => ?_) ?_
  refine T_reg [] [4] [] (mk 26 [(4, (db true))] []) _ (by kernel_rfl) (z2 zt) ?_
  refine T_ret ?_
  obtain rfl := some_inv h
  exact ret_here [(db true)] (by kernel_rfl) (.inl rfl)
  refine T_reg [] [0, 1, 5] [] (mk 26 [(0, (dt (.sl 1 (a_1.map elI)))), (1, (dt (.sl 1 (b_2.map elI)))), (5, (di 0))] []) _ (by kernel_rfl) (z2 zt) ?_
  refine T_block ?_
  refine T_arr [] [0, 1, 5] [] [] _ (by kernel_rfl) (T_loopO (σ := Nat) (fun (i_4 : Nat) => (mk 26 [(0, (dt (.sl 1 (a_1.map elI)))), (1, (dt (.sl 1 (b_2.map elI)))), (5, (di ((i_4 : Nat) : Int)))] [])) (g_ref42_SameInts_l2 a_1 b_2) 0 h (fun i_4 y1 hy1 h => ?_))
  refine T_seq ?_
  refine T_reg [zn, zn, (zd (I ((a_1.length : Nat) : Int)))] [0, 1, 5, 14] [] (mk 26 [(0, (dt (.sl 1 (a_1.map elI)))), (1, (dt (.sl 1 (b_2.map elI)))), (5, (di ((i_4 : Nat) : Int))), (14, (db (decide (((i_4 : Nat) : Int) < ((a_1.length : Nat) : Int)))))] []) _ (by kernel_rfl) (z5 (zc (len_s elI a_1) (z2 zt))) ?_
  refine T_cond (decide (((i_4 : Nat) : Int) < ((a_1.length : Nat) : Int))) (by kernel_rfl) (fun b6 => ?_) (fun b6 => ?_)
  replace h := ite_t b6 h
  refine T_skip ?_
  refine T_seq ?_
  refine T_block ?_
  obtain ⟨x_7, e8, e9, e10, h⟩ := gn_inv elI h
  obtain ⟨x_11, e12, e13, e14, h⟩ := gn_inv elI h
  refine T_regD 9 (hl 7 [(2, (zd (I x_7))), (6, (zd (I x_11)))]) [0, 1, 5, 25] [] (mk 26 [(0, (dt (.sl 1 (a_1.map elI)))), (1, (dt (.sl 1 (b_2.map elI)))), (5, (di ((i_4 : Nat) : Int))), (25, (db (x_7 != x_11)))] []) _ (by kernel_rfl) (by kernel_rfl) (by kernel_rfl) (zc (z5 (zc e8 (z7 (zc e12 (z4 zt))))) zt) ?_
  refine T_cond (x_7 != x_11) (by kernel_rfl) (fun b15 => ?_) (fun b15 => ?_)
  replace h := ite_t b15 h
  refine T_reg [] [4] [] (mk 26 [(4, (db false))] []) _ (by kernel_rfl) (z2 zt) ?_
  refine T_ret ?_
  replace h := up_inv h hy1
  obtain rfl := some_inv h
  exact ret_here [(db false)] (by kernel_rfl) (.inl rfl)
  replace h := ite_f b15 h
  refine T_skip ?_
  obtain ⟨c16, h⟩ := ckI_inv h
  exact T_regJ [zn, (zd (I ((i_4 + 1 : Nat) : Int)))] [] [0, 1, 5] [] [] _ _ (by kernel_rfl) (z3 (zc c16 (z2 zt))) (fun s hs => Exists.intro (i_4 + 1) (And.intro h hs))
  replace h := ite_f b6 h
  refine T_exit ?_
  replace h := up_inv h hy1
  exact Exists.intro () (And.intro h (arr [] [] [] [] (by kernel_rfl)))

theorem g_law42_sane_ret {r : Bool} (h : g_law42_sane = some r) : Ret Tryz.prog 9 [] (B (r)) := by
  refine Ret.of_T Tryz.func9 (by kernel_rfl) rfl ?_
  refine T_turn [] [] [] (mk 109 [] []) (by kernel_rfl) ?_
  refine T_reg [] [] [] (mk 109 [] []) _ (by kernel_rfl) (z2 zt) ?_
  refine T_reg [] [1] [] (mk 109 [(1, (rf 1 0))] [(1, (.var [(.dat (I 2)), (.own 16), (.dat (I 0)), (.dat (I 0)), (.dat (I (-1))), (.dat (I (-1)))])), (16, (.row 58 3 ([(⟨1, 2, 101⟩ : Prize)].map encPrize)))]) _ (by kernel_rfl) (z3 (zc (show dfill (fun i => some (i * 3, 3)) (List.replicate (1 * 3) .junk) [(0, [(.dat (I 1)), (.dat (I 2)), (.dat (I 101))])] = some ((flat ([(⟨1, 2, 101⟩ : Prize)].map encPrize)).map .dat) from rfl) (z6 zt))) ?_
  refine T_reg [] [1, 2] [] (mk 109 [(1, (rf 1 0)), (2, (rf 2 0))] [(2, (.var [(.dat (I 2)), (.own 16), (.dat (I 0)), (.dat (I 0)), (.dat (I (-1))), (.dat (I (-1)))])), (1, (.var [(.dat (I 2)), (.own 16), (.dat (I 0)), (.dat (I 0)), (.dat (I (-1))), (.dat (I (-1)))])), (16, (.row 58 3 ([(⟨1, 2, 101⟩ : Prize)].map encPrize)))]) _ (by kernel_rfl) (z6 zt) ?_
  refine T_reg [] [1, 2] [] (mk 109 [(1, (rf 1 0)), (2, (rf 2 0))] [(21, (.row 58 3 ([(⟨1, 2, 101⟩ : Prize), (⟨2, 2, 1⟩ : Prize)].map encPrize))), (2, (.var [(.dat (I 2)), (.own 21), (.dat (I 0)), (.dat (I 0)), (.dat (I (-1))), (.dat (I (-1)))])), (1, (.var [(.dat (I 2)), (.own 16), (.dat (I 0)), (.dat (I 0)), (.dat (I (-1))), (.dat (I (-1)))])), (16, (.row 58 3 ([(⟨1, 2, 101⟩ : Prize)].map encPrize)))]) _ (by kernel_rfl) (z5 (zc (show dfill (fun i => some (i * 3, 3)) (List.replicate (2 * 3) .junk) [(0, [(.dat (I 1)), (.dat (I 2)), (.dat (I 101))]), (1, [(.dat (I 2)), (.dat (I 2)), (.dat (I 1))])] = some ((flat ([(⟨1, 2, 101⟩ : Prize), (⟨2, 2, 1⟩ : Prize)].map encPrize)).map .dat) from rfl) (z4 zt))) ?_
  obtain ⟨r_1, e2, h⟩ := bd_inv h
  obtain ⟨r_3, e4, h⟩ := bd_inv h
  refine T_arr [] [1, 2] [] [1, 2, 16, 21] (mk 109 [(1, (rf 1 0)), (2, (rf 2 0))] [(1, (.var [(.dat (I 2)), (.own 16), (.dat (I 0)), (.dat (I 0)), (.dat (I (-1))), (.dat (I (-1)))])), (2, (.var [(.dat (I 2)), (.own 21), (.dat (I 0)), (.dat (I 0)), (.dat (I (-1))), (.dat (I (-1)))])), (16, (.row 58 3 ([(⟨1, 2, 101⟩ : Prize)].map encPrize))), (21, (.row 58 3 ([(⟨1, 2, 101⟩ : Prize), (⟨2, 2, 1⟩ : Prize)].map encPrize)))]) (by kernel_rfl) ?_
  refine T_anyUS [{}, { h := zd (encTab r_1), co := [.ice 24] }, {}, { h := zd (.tup [(.sl 2 (r_3.1.map encPay)), (I r_3.2)]), co := [.ice 16] }, {}, {}, {}, {}, {}] _ (mk 109 [(1, (rf 1 0)), (2, (rf 2 0))] [(1, (.var [(.dat (I 2)), (.own 16), (.dat (I 0)), (.dat (I 0)), (.dat (I (-1))), (.dat (I (-1)))])), (2, (.var [(.dat (I 2)), (.own 21), (.dat (I 0)), (.dat (I 0)), (.dat (I (-1))), (.dat (I (-1)))])), (16, (.row 58 3 ([(⟨1, 2, 101⟩ : Prize)].map encPrize))), (21, (.row 58 3 ([(⟨1, 2, 101⟩ : Prize), (⟨2, 2, 1⟩ : Prize)].map encPrize)))]) [(0, 24, (ow 24)), (1, 24, (dt (.sl 1 ([(4 : Int), (9 : Int)].map elI)))), (1, 25, (.agg (qTab r_1))), (2, 26, (.agg [(.dat (I 2)), (.own 16), (.dat (I 0)), (.dat (I 0)), (.dat (I (-1))), (.dat (I (-1)))])), (3, 26, (.agg [(.dat (I 2)), (.dat (.sl 3 ([(⟨1, 2, 101⟩ : Prize)].map encPrize))), (.dat (I 0)), (.dat (I 0)), (.dat (I (-1))), (.dat (I (-1)))])), (3, 27, (.tup [(false, [(.dat (.sl 2 (r_3.1.map encPay)))]), (false, [(.dat (I r_3.2))])])), (4, 23, (.tup [(false, [(.dat (.sl 2 (r_3.1.map encPay)))]), (false, [(.dat (I r_3.2))])])), (5, 28, (dt (.sl 2 (r_3.1.map encPay)))), (6, 29, (di r_3.2)), (7, 3, (dt (.sl 2 (r_3.1.map encPay)))), (8, 4, (di r_3.2))] [(0, 24, some (.row 3 1 ([(4 : Int), (9 : Int)].map elI))), (1, 24, none), (3, 1, some (.var [(.dat (I 2)), (.dat (.sl 3 ([(⟨1, 2, 101⟩ : Prize)].map encPrize))), (.dat (I 0)), (.dat (I 0)), (.dat (I (-1))), (.dat (I (-1)))])), (3, 16, none)] [1, 2, 16, 21, 24] [0, 1, 3, 4, 5, 7, 15, 31, 63, 95, 127, 191, 255, 511] (by kernel_rfl) (by decide) (by kernel_rfl) (by kernel_rfl) (by kernel_rfl) (zs (zc zt (show dfill (fun i => some (i * 1, 1)) (List.replicate (2 * 1) .junk) [(0, [(.dat (I 4))]), (1, [(.dat (I 9))])] = some ((flat ([(4 : Int), (9 : Int)].map elI)).map .dat) from rfl)) (zs (zc zt (g_law42_level_ret e2)) (zs (zc zt zt) (zs (zc zt (g_prizes_Prizes_ret e4)) (zs (zc zt zt) (zs (zc zt zt) (zs (zc zt zt) (zs (zc zt zt) (zs (zc zt zt) zS))))))))) ?_
  refine T_turn [] [1, 2, 3, 4] [] (mk 109 [(1, (rf 1 0)), (2, (rf 2 0)), (3, (dt (.sl 2 (r_3.1.map encPay)))), (4, (di r_3.2))] [(1, (.var [(.dat (I 2)), (.dat (.sl 3 ([(⟨1, 2, 101⟩ : Prize)].map encPrize))), (.dat (I 0)), (.dat (I 0)), (.dat (I (-1))), (.dat (I (-1)))])), (2, (.var [(.dat (I 2)), (.own 21), (.dat (I 0)), (.dat (I 0)), (.dat (I (-1))), (.dat (I (-1)))])), (21, (.row 58 3 ([(⟨1, 2, 101⟩ : Prize), (⟨2, 2, 1⟩ : Prize)].map encPrize)))]) (by kernel_rfl) ?_
  obtain ⟨r_5, e6, h⟩ := bd_inv h
  refine T_regD 11 [zn, (zd (encTab r_1)), zn, zn, zn, (zd (.tup [(.sl 1 (r_5.1.map elI)), (I r_5.2)]))] [1, 2, 3, 4, 5, 6] [] (mk 109 [(1, (rf 1 0)), (2, (rf 2 0)), (3, (dt (.sl 2 (r_3.1.map encPay)))), (4, (di r_3.2)), (5, (dt (.sl 1 (r_5.1.map elI)))), (6, (di r_5.2))] [(1, (.var [(.dat (I 2)), (.dat (.sl 3 ([(⟨1, 2, 101⟩ : Prize)].map encPrize))), (.dat (I 0)), (.dat (I 0)), (.dat (I (-1))), (.dat (I (-1)))])), (2, (.var [(.dat (I 2)), (.own 21), (.dat (I 0)), (.dat (I 0)), (.dat (I (-1))), (.dat (I (-1)))])), (21, (.row 58 3 ([(⟨1, 2, 101⟩ : Prize), (⟨2, 2, 1⟩ : Prize)].map encPrize)))]) _ (by kernel_rfl) (by kernel_rfl) (by kernel_rfl) (zc (z1 (zc (show dfill (fun i => some (i * 1, 1)) (List.replicate (2 * 1) .junk) [(0, [(.dat (I 4))]), (1, [(.dat (I 9))])] = some ((flat ([(4 : Int), (9 : Int)].map elI)).map .dat) from rfl) (z1 (zc (g_law42_level_ret e2) (z1 (zc (show dfill (fun i => some (i * 3, 3)) (List.replicate (1 * 3) .junk) [(0, [(.dat (I r_1.s)), (.dat (I r_1.c)), (.dat (.sl 14 (r_1.l.map encPlace)))])] = some ((flat ([r_1].map encTab)).map .dat) from rfl) (z3 (zc (show dfill (fun i => some (i * 6, 6)) (List.replicate (1 * 6) .junk) [(0, [(.dat (I 2)), (.dat (.sl 3 ([(⟨1, 2, 101⟩ : Prize)].map encPrize))), (.dat (I 0)), (.dat (I 0)), (.dat (I (-1))), (.dat (I (-1)))])] = some ((flat ([(⟨2, [(⟨1, 2, 101⟩ : Prize)], 0, 0, (-1), (-1)⟩ : Sch)].map encSch)).map .dat) from rfl) (z1 (zc (g_prizes_Next_ret e6) (z8 (z2 zt)))))))))))) zt) ?_
  obtain ⟨r_7, e8, h⟩ := bd_inv h
  refine T_reg [(zd (.tup [(.sl 1 (r_7.1.map elI)), (I r_7.2)]))] [1, 2, 3, 4, 5, 6, 8] [] (mk 109 [(1, (rf 1 0)), (2, (rf 2 0)), (3, (dt (.sl 2 (r_3.1.map encPay)))), (4, (di r_3.2)), (5, (dt (.sl 1 (r_5.1.map elI)))), (6, (di r_5.2)), (8, (di r_7.2))] [(1, (.var [(.dat (I 2)), (.dat (.sl 3 ([(⟨1, 2, 101⟩ : Prize)].map encPrize))), (.dat (I 0)), (.dat (I 0)), (.dat (I (-1))), (.dat (I (-1)))])), (2, (.var [(.dat (I 2)), (.own 21), (.dat (I 0)), (.dat (I 0)), (.dat (I (-1))), (.dat (I (-1)))])), (21, (.row 58 3 ([(⟨1, 2, 101⟩ : Prize), (⟨2, 2, 1⟩ : Prize)].map encPrize)))]) _ (by kernel_rfl) (z1 (zc (show Ret Tryz.prog 20 [nilS, nilS, (I 0)] (.tup [(.sl 1 (r_7.1.map elI)), (I r_7.2)]) from (Ret.weak (g_prizes_Next_ret e8) ⟨Weak.nil 3, Weak.nil 6, Weak.refl _, trivial⟩)) (z8 (z2 zt)))) ?_
  obtain ⟨r_9, e10, h⟩ := bd_inv h
  refine T_reg [zn, zn, (zd (.tup [(.sl 2 (r_9.1.map encPay)), (I r_9.2)]))] [1, 2, 3, 4, 5, 6, 8, 10] [] (mk 109 [(1, (rf 1 0)), (2, (rf 2 0)), (3, (dt (.sl 2 (r_3.1.map encPay)))), (4, (di r_3.2)), (5, (dt (.sl 1 (r_5.1.map elI)))), (6, (di r_5.2)), (8, (di r_7.2)), (10, (di r_9.2))] [(1, (.var [(.dat (I 2)), (.dat (.sl 3 ([(⟨1, 2, 101⟩ : Prize)].map encPrize))), (.dat (I 0)), (.dat (I 0)), (.dat (I (-1))), (.dat (I (-1)))])), (2, (.var [(.dat (I 2)), (.own 21), (.dat (I 0)), (.dat (I 0)), (.dat (I (-1))), (.dat (I (-1)))])), (21, (.row 58 3 ([(⟨1, 2, 101⟩ : Prize), (⟨2, 2, 1⟩ : Prize)].map encPrize)))]) _ (by kernel_rfl) (z5 (zc (show Ret Tryz.prog 12 [(.agg [(I 0), (I 0), nilS]), (.agg [(I 2), (.sl 3 ([(⟨1, 2, 101⟩ : Prize)].map encPrize)), (I 0), (I 0), (I (-1)), (I (-1))])] (.tup [(.sl 2 (r_9.1.map encPay)), (I r_9.2)]) from (Ret.weak (g_prizes_Prizes_ret e10) ⟨(Weak.agg ⟨Weak.refl _, Weak.refl _, Weak.nil 14, trivial⟩), Weak.refl _, trivial⟩)) (z8 (z2 zt)))) ?_
  refine T_reg [] [1, 2, 3, 4, 5, 6, 8, 10, 11] [] (mk 109 [(1, (rf 1 0)), (2, (rf 2 0)), (3, (dt (.sl 2 (r_3.1.map encPay)))), (4, (di r_3.2)), (5, (dt (.sl 1 (r_5.1.map elI)))), (6, (di r_5.2)), (8, (di r_7.2)), (10, (di r_9.2)), (11, (rf 11 0))] [(11, (.var [(.dat (I 2)), (.dat (.sl 3 ([(⟨1, 2, 101⟩ : Prize)].map encPrize))), (.dat (I 0)), (.dat (I 0)), (.dat (I (-1))), (.dat (I (-1)))])), (1, (.var [(.dat (I 2)), (.dat (.sl 3 ([(⟨1, 2, 101⟩ : Prize)].map encPrize))), (.dat (I 0)), (.dat (I 0)), (.dat (I (-1))), (.dat (I (-1)))])), (2, (.var [(.dat (I 2)), (.own 21), (.dat (I 0)), (.dat (I 0)), (.dat (I (-1))), (.dat (I (-1)))])), (21, (.row 58 3 ([(⟨1, 2, 101⟩ : Prize), (⟨2, 2, 1⟩ : Prize)].map encPrize)))]) _ (by kernel_rfl) (z6 zt) ?_
  refine T_reg [] [1, 2, 3, 4, 5, 6, 8, 10, 11] [] (mk 109 [(1, (rf 1 0)), (2, (rf 2 0)), (3, (dt (.sl 2 (r_3.1.map encPay)))), (4, (di r_3.2)), (5, (dt (.sl 1 (r_5.1.map elI)))), (6, (di r_5.2)), (8, (di r_7.2)), (10, (di r_9.2)), (11, (rf 11 0))] [(11, (.var [(.dat (I 2)), (.dat (.sl 3 ([(⟨1, 2, 101⟩ : Prize)].map encPrize))), (.dat (I 3)), (.dat (I 0)), (.dat (I 1)), (.dat (I (-1)))])), (1, (.var [(.dat (I 2)), (.dat (.sl 3 ([(⟨1, 2, 101⟩ : Prize)].map encPrize))), (.dat (I 0)), (.dat (I 0)), (.dat (I (-1))), (.dat (I (-1)))])), (2, (.var [(.dat (I 2)), (.own 21), (.dat (I 0)), (.dat (I 0)), (.dat (I (-1))), (.dat (I (-1)))])), (21, (.row 58 3 ([(⟨1, 2, 101⟩ : Prize), (⟨2, 2, 1⟩ : Prize)].map encPrize)))]) _ (by kernel_rfl) (z8 zt) ?_
  obtain ⟨r_11, e12, h⟩ := bd_inv h
  refine T_regD 11 [zn, (zd (encTab r_1)), zn, (zd (.tup [(.sl 1 (r_11.1.map elI)), (.sl 1 (r_11.2.1.map elI)), (I r_11.2.2)]))] [1, 2, 3, 4, 5, 6, 8, 10, 14] [11] (mk 109 [(1, (rf 1 0)), (2, (rf 2 0)), (3, (dt (.sl 2 (r_3.1.map encPay)))), (4, (di r_3.2)), (5, (dt (.sl 1 (r_5.1.map elI)))), (6, (di r_5.2)), (8, (di r_7.2)), (10, (di r_9.2)), (14, (di r_11.2.2))] [(1, (.var [(.dat (I 2)), (.dat (.sl 3 ([(⟨1, 2, 101⟩ : Prize)].map encPrize))), (.dat (I 0)), (.dat (I 0)), (.dat (I (-1))), (.dat (I (-1)))])), (2, (.var [(.dat (I 2)), (.own 21), (.dat (I 0)), (.dat (I 0)), (.dat (I (-1))), (.dat (I (-1)))])), (21, (.row 58 3 ([(⟨1, 2, 101⟩ : Prize), (⟨2, 2, 1⟩ : Prize)].map encPrize)))]) _ (by kernel_rfl) (by kernel_rfl) (by kernel_rfl) (zc (z1 (zc (show dfill (fun i => some (i * 1, 1)) (List.replicate (2 * 1) .junk) [(0, [(.dat (I 4))]), (1, [(.dat (I 9))])] = some ((flat ([(4 : Int), (9 : Int)].map elI)).map .dat) from rfl) (z1 (zc (g_law42_level_ret e2) (z3 (zc (g_prizes_Moves_ret e12) (z8 (z6 zt)))))))) zt) ?_
  refine T_seq ?_
  refine T_seqJ (α := Bool) (fun (v_13 : Bool) => (mk 109 [(1, (rf 1 0)), (2, (rf 2 0)), (3, (dt (.sl 2 (r_3.1.map encPay)))), (5, (dt (.sl 1 (r_5.1.map elI)))), (83, (db (v_13)))] [(1, (.var [(.dat (I 2)), (.dat (.sl 3 ([(⟨1, 2, 101⟩ : Prize)].map encPrize))), (.dat (I 0)), (.dat (I 0)), (.dat (I (-1))), (.dat (I (-1)))])), (2, (.var [(.dat (I 2)), (.own 21), (.dat (I 0)), (.dat (I 0)), (.dat (I (-1))), (.dat (I (-1)))])), (21, (.row 58 3 ([(⟨1, 2, 101⟩ : Prize), (⟨2, 2, 1⟩ : Prize)].map encPrize)))])) (fun (v_13 : Bool) => g_law42_sane_j1 r_3 r_5 v_13 = some r) (fun v_13 h => ?_) ?_
  refine T_cond (v_13) (by kernel_rfl) (fun b14 => ?_) (fun b14 => ?_)
  replace h := ite_t b14 h
  refine T_reg [] [0] [1, 2, 21] (mk 109 [(0, (db false))] []) _ (by kernel_rfl) (z2 zt) ?_
  refine T_ret ?_
  obtain rfl := some_inv h
  exact ret_here [(db false)] (by kernel_rfl) (.inl rfl)
  replace h := ite_f b14 h
  refine T_skip ?_
  obtain ⟨r_15, e16, h⟩ := bd_inv h
  rcases Bool.eq_false_or_eq_true (r_15) with b17 | b17
  replace h := ite_t b17 h
  obtain ⟨r_18, e19, h⟩ := bd_inv h
  rcases Bool.eq_false_or_eq_true (r_18) with b20 | b20
  replace h := ite_t b20 h
  obtain ⟨r_21, e22, h⟩ := bd_inv h
  rcases Bool.eq_false_or_eq_true (r_21 == 0) with b23 | b23
  replace h := ite_t b23 h
  obtain ⟨r_24, e25, h⟩ := bd_inv h
  rcases Bool.eq_false_or_eq_true (r_24 == 420) with b26 | b26
  replace h := ite_t b26 h
  obtain ⟨r_27, e28, h⟩ := bd_inv h
  refine T_reg (hl 25 [(4, (zd (B (r_15)))), (8, (zd (B (r_18)))), (9, (zd (B true))), (12, (zd (I r_21))), (14, (zd (B true))), (17, (zd (I r_24))), (19, (zd (B true))), (22, (zd (I r_27))), (24, (zd (B true)))]) [0] [91, 87, 1, 2, 21] (mk 109 [(0, (db (r_27 == 420)))] []) _ (by kernel_rfl) (z7 (zc (show dfill (fun i => some (i * 2, 2)) (List.replicate (2 * 2) .junk) [(0, [(.dat (I 4)), (.dat (I 51))]), (1, [(.dat (I 9)), (.dat (I 50))])] = some ((flat ([(⟨4, 51⟩ : Pay), (⟨9, 50⟩ : Pay)].map encPay)).map .dat) from rfl) (z1 (zc (g_ref42_Same_ret e16) (z2 (zc (gd_tt b17) (z1 (zc (gd_tt b17) (zc (show dfill (fun i => some (i * 1, 1)) (List.replicate (2 * 1) .junk) [(0, [(.dat (I 4))]), (1, [(.dat (I 9))])] = some ((flat ([(4 : Int), (9 : Int)].map elI)).map .dat) from rfl) (zc (gd_tt b17) (zc (g_ref42_SameInts_ret e19) (z1 (zc b17 (z2 (zc (gd_tt b20) (z1 (zc (gd_tt b20) (zc (g_prizes_Check_ret e22) (zc (gd_tt b20) (z2 (zc b20 (z2 (zc (gd_tt b23) (z1 (zc (gd_tt b23) (zc (g_prizes_Check_ret e25) (zc (gd_tt b23) (z2 (zc b23 (z2 (zc (gd_tt b26) (z1 (zc (gd_tt b26) (zc (show Ret Tryz.prog 14 [(.agg [(I 0), nilS, (I 0), (I 0), (I 0), (I 0)])] (I r_27) from (Ret.weak (g_prizes_Check_ret e28) ⟨(Weak.agg ⟨Weak.refl _, Weak.nil 3, Weak.refl _, Weak.refl _, Weak.refl _, Weak.refl _, trivial⟩), trivial⟩)) (zc (gd_tt b26) (z2 (zc b26 (z2 zt)))))))))))))))))))))))))))))))))))))) ?_
  refine T_ret ?_
  obtain rfl := some_inv h
  exact ret_here [(db (r_27 == 420))] (by kernel_rfl) (.inl rfl)
  replace h := ite_f b26 h
  refine T_reg [zn, zn, zn, zn, (zd (B (r_15))), zn, zn, zn, (zd (B (r_18))), (zd (B true)), zn, zn, (zd (I r_21)), zn, (zd (B true)), zn, zn, (zd (I r_24)), zn, (zd (B true)), zn, zg, zg, zg, (zd (B false))] [0] [91, 87, 1, 2, 21] (mk 109 [(0, (db false))] []) _ (by kernel_rfl) (z7 (zc (show dfill (fun i => some (i * 2, 2)) (List.replicate (2 * 2) .junk) [(0, [(.dat (I 4)), (.dat (I 51))]), (1, [(.dat (I 9)), (.dat (I 50))])] = some ((flat ([(⟨4, 51⟩ : Pay), (⟨9, 50⟩ : Pay)].map encPay)).map .dat) from rfl) (z1 (zc (g_ref42_Same_ret e16) (z2 (zc (gd_tt b17) (z1 (zc (gd_tt b17) (zc (show dfill (fun i => some (i * 1, 1)) (List.replicate (2 * 1) .junk) [(0, [(.dat (I 4))]), (1, [(.dat (I 9))])] = some ((flat ([(4 : Int), (9 : Int)].map elI)).map .dat) from rfl) (zc (gd_tt b17) (zc (g_ref42_SameInts_ret e19) (z1 (zc b17 (z2 (zc (gd_tt b20) (z1 (zc (gd_tt b20) (zc (g_prizes_Check_ret e22) (zc (gd_tt b20) (z2 (zc b20 (z2 (zc (gd_tt b23) (z1 (zc (gd_tt b23) (zc (g_prizes_Check_ret e25) (zc (gd_tt b23) (z2 (zc b23 (z2 (zc (gd_ft b26) (zc (gd_ft b26) (zc (gd_ft b26) (z1 (zc b26 (z2 zt)))))))))))))))))))))))))))))))))))) ?_
  refine T_ret ?_
  obtain rfl := some_inv h
  exact ret_here [(db false)] (by kernel_rfl) (.inl rfl)
  replace h := ite_f b23 h
  refine T_reg [zn, zn, zn, zn, (zd (B (r_15))), zn, zn, zn, (zd (B (r_18))), (zd (B true)), zn, zn, (zd (I r_21)), zn, (zd (B true)), zn, zg, zg, zg, (zd (B false)), zn, zg, zg, zg, (zd (B false))] [0] [91, 87, 1, 2, 21] (mk 109 [(0, (db false))] []) _ (by kernel_rfl) (z7 (zc (show dfill (fun i => some (i * 2, 2)) (List.replicate (2 * 2) .junk) [(0, [(.dat (I 4)), (.dat (I 51))]), (1, [(.dat (I 9)), (.dat (I 50))])] = some ((flat ([(⟨4, 51⟩ : Pay), (⟨9, 50⟩ : Pay)].map encPay)).map .dat) from rfl) (z1 (zc (g_ref42_Same_ret e16) (z2 (zc (gd_tt b17) (z1 (zc (gd_tt b17) (zc (show dfill (fun i => some (i * 1, 1)) (List.replicate (2 * 1) .junk) [(0, [(.dat (I 4))]), (1, [(.dat (I 9))])] = some ((flat ([(4 : Int), (9 : Int)].map elI)).map .dat) from rfl) (zc (gd_tt b17) (zc (g_ref42_SameInts_ret e19) (z1 (zc b17 (z2 (zc (gd_tt b20) (z1 (zc (gd_tt b20) (zc (g_prizes_Check_ret e22) (zc (gd_tt b20) (z2 (zc b20 (z2 (zc (gd_ft b23) (zc (gd_ft b23) (zc (gd_ft b23) (z1 (zc b23 (z2 (zc (gd_ft (rfl : false = false)) (zc (gd_ft (rfl : false = false)) (zc (gd_ft (rfl : false = false)) (z1 (zc (rfl : false = false) (z2 zt)))))))))))))))))))))))))))))))))) ?_
  refine T_ret ?_
  obtain rfl := some_inv h
  exact ret_here [(db false)] (by kernel_rfl) (.inl rfl)
  replace h := ite_f b20 h
  refine T_reg [zn, zn, zn, zn, (zd (B (r_15))), zn, zn, zn, (zd (B (r_18))), (zd (B true)), zn, zg, zg, zg, (zd (B false)), zn, zg, zg, zg, (zd (B false)), zn, zg, zg, zg, (zd (B false))] [0] [91, 87, 1, 2, 21] (mk 109 [(0, (db false))] []) _ (by kernel_rfl) (z7 (zc (show dfill (fun i => some (i * 2, 2)) (List.replicate (2 * 2) .junk) [(0, [(.dat (I 4)), (.dat (I 51))]), (1, [(.dat (I 9)), (.dat (I 50))])] = some ((flat ([(⟨4, 51⟩ : Pay), (⟨9, 50⟩ : Pay)].map encPay)).map .dat) from rfl) (z1 (zc (g_ref42_Same_ret e16) (z2 (zc (gd_tt b17) (z1 (zc (gd_tt b17) (zc (show dfill (fun i => some (i * 1, 1)) (List.replicate (2 * 1) .junk) [(0, [(.dat (I 4))]), (1, [(.dat (I 9))])] = some ((flat ([(4 : Int), (9 : Int)].map elI)).map .dat) from rfl) (zc (gd_tt b17) (zc (g_ref42_SameInts_ret e19) (z1 (zc b17 (z2 (zc (gd_ft b20) (zc (gd_ft b20) (zc (gd_ft b20) (z1 (zc b20 (z2 (zc (gd_ft (rfl : false = false)) (zc (gd_ft (rfl : false = false)) (zc (gd_ft (rfl : false = false)) (z1 (zc (rfl : false = false) (z2 (zc (gd_ft (rfl : false = false)) (zc (gd_ft (rfl : false = false)) (zc (gd_ft (rfl : false = false)) (z1 (zc (rfl : false = false) (z2 zt)))))))))))))))))))))))))))))))) ?_
  refine T_ret ?_
  obtain rfl := some_inv h
  exact ret_here [(db false)] (by kernel_rfl) (.inl rfl)
  replace h := ite_f b17 h
  refine T_reg [zn, zn, zn, zn, (zd (B (r_15))), zn, zg, zg, zg, (zd (B false)), zn, zg, zg, zg, (zd (B false)), zn, zg, zg, zg, (zd (B false)), zn, zg, zg, zg, (zd (B false))] [0] [87, 1, 2, 21] (mk 109 [(0, (db false))] []) _ (by kernel_rfl) (z7 (zc (show dfill (fun i => some (i * 2, 2)) (List.replicate (2 * 2) .junk) [(0, [(.dat (I 4)), (.dat (I 51))]), (1, [(.dat (I 9)), (.dat (I 50))])] = some ((flat ([(⟨4, 51⟩ : Pay), (⟨9, 50⟩ : Pay)].map encPay)).map .dat) from rfl) (z1 (zc (g_ref42_Same_ret e16) (z2 (zc (gd_ft b17) (zc (gd_ft b17) (zc (gd_ft b17) (z1 (zc b17 (z2 (zc (gd_ft (rfl : false = false)) (zc (gd_ft (rfl : false = false)) (zc (gd_ft (rfl : false = false)) (z1 (zc (rfl : false = false) (z2 (zc (gd_ft (rfl : false = false)) (zc (gd_ft (rfl : false = false)) (zc (gd_ft (rfl : false = false)) (z1 (zc (rfl : false = false) (z2 (zc (gd_ft (rfl : false = false)) (zc (gd_ft (rfl : false = false)) (zc (gd_ft (rfl : false = false)) (z1 (zc (rfl : false = false) (z2 zt))))))))))))))))))))))))))))) ?_
  refine T_ret ?_
  obtain rfl := some_inv h
  exact ret_here [(db false)] (by kernel_rfl) (.inl rfl)
  rcases Bool.eq_false_or_eq_true (r_3.2 != 0) with b29 | b29
  replace h := ite_t b29 h
  exact T_regJ [zn, zn, zn, zg, zg, (zd (B true)), zn, zg, zg, (zd (B true)), zn, zg, zg, zg, zg, (zd (B true)), zn, zg, zg, (zd (B true)), zn, zg, zg, (zd (B true))] [] [1, 2, 3, 5, 83] [] [1, 2, 21] _ _ (by kernel_rfl) (z6 (zc (gd_tf b29) (zc (gd_tf b29) (z1 (zc b29 (z2 (zc (gd_tf (rfl : true = true)) (zc (gd_tf (rfl : true = true)) (z1 (zc (rfl : true = true) (z2 (zc (gd_tf (rfl : true = true)) (zc (gd_tf (rfl : true = true)) (zc (gd_tf (rfl : true = true)) (zc (gd_tf (rfl : true = true)) (z1 (zc (rfl : true = true) (z2 (zc (gd_tf (rfl : true = true)) (zc (gd_tf (rfl : true = true)) (z1 (zc (rfl : true = true) (z2 (zc (gd_tf (rfl : true = true)) (zc (gd_tf (rfl : true = true)) (z1 (zc (rfl : true = true) zt))))))))))))))))))))))))))) (fun s hs => Exists.intro true (And.intro h hs))
  replace h := ite_f b29 h
  rcases Bool.eq_false_or_eq_true (r_5.2 != 0) with b30 | b30
  replace h := ite_t b30 h
  exact T_regJ [zn, zn, zn, zn, zn, (zd (B false)), zn, zg, zg, (zd (B true)), zn, zg, zg, zg, zg, (zd (B true)), zn, zg, zg, (zd (B true)), zn, zg, zg, (zd (B true))] [] [1, 2, 3, 5, 83] [] [1, 2, 21] _ _ (by kernel_rfl) (z6 (zc (gd_ff b29) (z1 (zc (gd_ff b29) (z2 (zc b29 (z2 (zc (gd_tf b30) (zc (gd_tf b30) (z1 (zc b30 (z2 (zc (gd_tf (rfl : true = true)) (zc (gd_tf (rfl : true = true)) (zc (gd_tf (rfl : true = true)) (zc (gd_tf (rfl : true = true)) (z1 (zc (rfl : true = true) (z2 (zc (gd_tf (rfl : true = true)) (zc (gd_tf (rfl : true = true)) (z1 (zc (rfl : true = true) (z2 (zc (gd_tf (rfl : true = true)) (zc (gd_tf (rfl : true = true)) (z1 (zc (rfl : true = true) zt)))))))))))))))))))))))))))) (fun s hs => Exists.intro true (And.intro h hs))
  replace h := ite_f b30 h
  rcases Bool.eq_false_or_eq_true (r_7.2 != 420) with b31 | b31
  replace h := ite_t b31 h
  exact T_regJ [zn, zn, zn, zn, zn, (zd (B false)), zn, zn, zn, (zd (B false)), zn, zg, zg, zg, zg, (zd (B true)), zn, zg, zg, (zd (B true)), zn, zg, zg, (zd (B true))] [] [1, 2, 3, 5, 83] [] [1, 2, 21] _ _ (by kernel_rfl) (z6 (zc (gd_ff b29) (z1 (zc (gd_ff b29) (z2 (zc b29 (z2 (zc (gd_ff b30) (z1 (zc (gd_ff b30) (z2 (zc b30 (z2 (zc (gd_tf b31) (zc (gd_tf b31) (zc (gd_tf b31) (zc (gd_tf b31) (z1 (zc b31 (z2 (zc (gd_tf (rfl : true = true)) (zc (gd_tf (rfl : true = true)) (z1 (zc (rfl : true = true) (z2 (zc (gd_tf (rfl : true = true)) (zc (gd_tf (rfl : true = true)) (z1 (zc (rfl : true = true) zt))))))))))))))))))))))))))))) (fun s hs => Exists.intro true (And.intro h hs))
  replace h := ite_f b31 h
  obtain ⟨r_32, e33, h⟩ := bd_inv h
  rcases Bool.eq_false_or_eq_true (r_9.2 != r_32) with b34 | b34
  replace h := ite_t b34 h
  exact T_regJ [zn, zn, zn, zn, zn, (zd (B false)), zn, zn, zn, (zd (B false)), zn, zn, zn, (zd (I r_32)), zn, (zd (B false)), zn, zg, zg, (zd (B true)), zn, zg, zg, (zd (B true))] [] [1, 2, 3, 5, 83] [] [1, 2, 21] _ _ (by kernel_rfl) (z6 (zc (gd_ff b29) (z1 (zc (gd_ff b29) (z2 (zc b29 (z2 (zc (gd_ff b30) (z1 (zc (gd_ff b30) (z2 (zc b30 (z2 (zc (gd_ff b31) (z1 (zc (gd_ff b31) (z1 (zc (gd_ff b31) (zc (show Ret Tryz.prog 27 [(.agg [(I 0), (I 0), nilS])] (I r_32) from (Ret.weak (g_table_Check_ret e33) ⟨(Weak.agg ⟨Weak.refl _, Weak.refl _, Weak.nil 14, trivial⟩), trivial⟩)) (zc (gd_ff b31) (z2 (zc b31 (z2 (zc (gd_tf b34) (zc (gd_tf b34) (z1 (zc b34 (z2 (zc (gd_tf (rfl : true = true)) (zc (gd_tf (rfl : true = true)) (z1 (zc (rfl : true = true) zt)))))))))))))))))))))))))))))))) (fun s hs => Exists.intro true (And.intro h hs))
  replace h := ite_f b34 h
  rcases Bool.eq_false_or_eq_true (r_9.2 == 0) with b35 | b35
  replace h := ite_t b35 h
  exact T_regJ (hl 24 [(5, (zd (B false))), (9, (zd (B false))), (13, (zd (I r_32))), (15, (zd (B false))), (19, (zd (B false))), (21, zg), (22, zg), (23, (zd (B true)))]) [] [1, 2, 3, 5, 83] [] [1, 2, 21] _ _ (by kernel_rfl) (z6 (zc (gd_ff b29) (z1 (zc (gd_ff b29) (z2 (zc b29 (z2 (zc (gd_ff b30) (z1 (zc (gd_ff b30) (z2 (zc b30 (z2 (zc (gd_ff b31) (z1 (zc (gd_ff b31) (z1 (zc (gd_ff b31) (zc (show Ret Tryz.prog 27 [(.agg [(I 0), (I 0), nilS])] (I r_32) from (Ret.weak (g_table_Check_ret e33) ⟨(Weak.agg ⟨Weak.refl _, Weak.refl _, Weak.nil 14, trivial⟩), trivial⟩)) (zc (gd_ff b31) (z2 (zc b31 (z2 (zc (gd_ff b34) (z1 (zc (gd_ff b34) (z2 (zc b34 (z2 (zc (gd_tf b35) (zc (gd_tf b35) (z1 (zc b35 zt))))))))))))))))))))))))))))))))) (fun s hs => Exists.intro true (And.intro h hs))
  replace h := ite_f b35 h
  exact T_regJ (hl 24 [(5, (zd (B false))), (9, (zd (B false))), (13, (zd (I r_32))), (15, (zd (B false))), (19, (zd (B false))), (23, (zd (B false)))]) [] [1, 2, 3, 5, 83] [] [1, 2, 21] _ _ (by kernel_rfl) (z6 (zc (gd_ff b29) (z1 (zc (gd_ff b29) (z2 (zc b29 (z2 (zc (gd_ff b30) (z1 (zc (gd_ff b30) (z2 (zc b30 (z2 (zc (gd_ff b31) (z1 (zc (gd_ff b31) (z1 (zc (gd_ff b31) (zc (show Ret Tryz.prog 27 [(.agg [(I 0), (I 0), nilS])] (I r_32) from (Ret.weak (g_table_Check_ret e33) ⟨(Weak.agg ⟨Weak.refl _, Weak.refl _, Weak.nil 14, trivial⟩), trivial⟩)) (zc (gd_ff b31) (z2 (zc b31 (z2 (zc (gd_ff b34) (z1 (zc (gd_ff b34) (z2 (zc b34 (z2 (zc (gd_ff b35) (z1 (zc (gd_ff b35) (z2 (zc b35 zt)))))))))))))))))))))))))))))))))) (fun s hs => Exists.intro (r_11.2.2 != 420) (And.intro h hs))

theorem g_law42_one_ret {t_1 : Tab} {s_2 : Sch} {r : (List Tab) × (List Sch)} (h : g_law42_one t_1 s_2 = some r) : Ret Tryz.prog 11 [(encTab t_1), (encSch s_2)] (.tup [(.sl 3 (r.1.map encTab)), (.sl 6 (r.2.map encSch))]) := by
  refine Ret.of_T Tryz.func11 (by kernel_rfl) rfl ?_
  refine T_turn [] [0, 1] [] (mk 10 [(0, (.agg (qTab t_1))), (1, (.agg (qSch s_2)))] []) (by kernel_rfl) ?_
  refine T_reg [] [2, 3] [] (mk 10 [(2, (rf 2 0)), (3, (rf 3 0))] [(3, (.var (qSch s_2))), (2, (.var (qTab t_1)))]) _ (by kernel_rfl) (z8 zt) ?_
  refine T_regD 6 [] [4, 5] [3, 2] (mk 10 [(4, (dt (.sl 3 ([t_1].map encTab)))), (5, (dt (.sl 6 ([s_2].map encSch))))] []) _ (by kernel_rfl) (by kernel_rfl) (by kernel_rfl) (zc (z3 (zc (show dfill (fun i => some (i * 3, 3)) (List.replicate (1 * 3) .junk) [(0, [(.dat (I t_1.s)), (.dat (I t_1.c)), (.dat (.sl 14 (t_1.l.map encPlace)))])] = some ((flat ([t_1].map encTab)).map .dat) from rfl) (z3 (zc (show dfill (fun i => some (i * 6, 6)) (List.replicate (1 * 6) .junk) [(0, [(.dat (I s_2.c)), (.dat (.sl 3 (s_2.p.map encPrize))), (.dat (I s_2.u)), (.dat (I s_2.d)), (.dat (I s_2.ab)), (.dat (I s_2.be))])] = some ((flat ([s_2].map encSch)).map .dat) from rfl) (z4 zt))))) zt) ?_
  refine T_ret ?_
  obtain rfl := some_inv h
  exact ret_here [(dt (.sl 3 ([t_1].map encTab))), (dt (.sl 6 ([s_2].map encSch)))] (by kernel_rfl) ⟨(.inl rfl), (.inl rfl), trivial⟩

theorem g_ref42_Few_ret {tables_1 : List Tab} {schemes_2 : List Sch} {r : Bool} (h : g_ref42_Few tables_1 schemes_2 = some r) : Ret Tryz.prog 10 [(.sl 3 (tables_1.map encTab)), (.sl 6 (schemes_2.map encSch))] (B (r)) := by
  refine Ret.of_T Tryz.func10 (by kernel_rfl) rfl ?_
  refine T_turn [] [0, 1] [] (mk 41 [(0, (dt (.sl 3 (tables_1.map encTab)))), (1, (dt (.sl 6 (schemes_2.map encSch))))] []) (by kernel_rfl) ?_
  refine T_reg [] [0, 1] [] (mk 41 [(0, (dt (.sl 3 (tables_1.map encTab)))), (1, (dt (.sl 6 (schemes_2.map encSch))))] []) _ (by kernel_rfl) (z2 zt) ?_
  refine T_seq ?_
  refine T_seqJ (α := Bool) (fun (v_3 : Bool) => (mk 41 [(0, (dt (.sl 3 (tables_1.map encTab)))), (1, (dt (.sl 6 (schemes_2.map encSch)))), (14, (db (v_3)))] [])) (fun (v_3 : Bool) => g_ref42_Few_j1 tables_1 schemes_2 v_3 = some r) (fun v_3 h => ?_) ?_
  refine T_cond (v_3) (by kernel_rfl) (fun b4 => ?_) (fun b4 => ?_)
  replace h := ite_t b4 h
  refine T_reg [] [4] [] (mk 41 [(4, (db false))] []) _ (by kernel_rfl) (z2 zt) ?_
  refine T_ret ?_
  obtain rfl := some_inv h
  exact ret_here [(db false)] (by kernel_rfl) (.inl rfl)
  replace h := ite_f b4 h
  refine T_skip ?_
  refine T_seqJ (α := Unit) (fun (_ : Unit) => (mk 41 [(1, (dt (.sl 6 (schemes_2.map encSch))))] [])) (fun (_ : Unit) => g_ref42_Few_j2 schemes_2 = some r) (fun v h => ?_) ?_
  refine T_seqJ (α := Unit) (fun (_ : Unit) => (mk 41 [] [])) (fun (_ : Unit) => g_ref42_Few_j3 = some r) (fun v h => ?_) ?_
  refine T_reg [] [4] [] (mk 41 [(4, (db true))] []) _ (by kernel_rfl) (z2 zt) ?_
  refine T_ret ?_
  obtain rfl := some_inv h
  exact ret_here [(db true)] (by kernel_rfl) (.inl rfl)
  refine T_reg [] [1, 6] [] (mk 41 [(1, (dt (.sl 6 (schemes_2.map encSch)))), (6, (di 0))] []) _ (by kernel_rfl) (z2 zt) ?_
  refine T_block ?_
  refine T_arr [] [1, 6] [] [] _ (by kernel_rfl) (T_loopO (σ := Nat) (fun (i_5 : Nat) => (mk 41 [(1, (dt (.sl 6 (schemes_2.map encSch)))), (6, (di ((i_5 : Nat) : Int)))] [])) (g_ref42_Few_l4 schemes_2) 0 h (fun i_5 y1 hy1 h => ?_))
  refine T_seq ?_
  refine T_reg [zn, zn, (zd (I ((schemes_2.length : Nat) : Int)))] [1, 6, 31] [] (mk 41 [(1, (dt (.sl 6 (schemes_2.map encSch)))), (6, (di ((i_5 : Nat) : Int))), (31, (db (decide (((i_5 : Nat) : Int) < ((schemes_2.length : Nat) : Int)))))] []) _ (by kernel_rfl) (z5 (zc (len_s encSch schemes_2) (z2 zt))) ?_
  refine T_cond (decide (((i_5 : Nat) : Int) < ((schemes_2.length : Nat) : Int))) (by kernel_rfl) (fun b7 => ?_) (fun b7 => ?_)
  replace h := ite_t b7 h
  refine T_skip ?_
  refine T_seq ?_
  refine T_block ?_
  obtain ⟨x_8, e9, e10, e11, h⟩ := gn_inv encSch h
  refine T_reg [zn, zn, (zd (encSch x_8)), zn, zn, (zd (I ((x_8.p.length : Nat) : Int)))] [1, 6, 40] [] (mk 41 [(1, (dt (.sl 6 (schemes_2.map encSch)))), (6, (di ((i_5 : Nat) : Int))), (40, (db (decide (((x_8.p.length : Nat) : Int) > 30))))] []) _ (by kernel_rfl) (z5 (zc e9 (z5 (zc (len_s encPrize x_8.p) (z2 zt))))) ?_
  refine T_cond (decide (((x_8.p.length : Nat) : Int) > 30)) (by kernel_rfl) (fun b12 => ?_) (fun b12 => ?_)
  replace h := ite_t b12 h
  refine T_reg [] [4] [] (mk 41 [(4, (db false))] []) _ (by kernel_rfl) (z2 zt) ?_
  refine T_ret ?_
  replace h := up_inv h hy1
  obtain rfl := some_inv h
  exact ret_here [(db false)] (by kernel_rfl) (.inl rfl)
  replace h := ite_f b12 h
  refine T_skip ?_
  obtain ⟨c13, h⟩ := ckI_inv h
  exact T_regJ [zn, (zd (I ((i_5 + 1 : Nat) : Int)))] [] [1, 6] [] [] _ _ (by kernel_rfl) (z3 (zc c13 (z2 zt))) (fun s hs => Exists.intro (i_5 + 1) (And.intro h hs))
  replace h := ite_f b7 h
  refine T_exit ?_
  replace h := up_inv h hy1
  exact Exists.intro () (And.intro h (arr [] [] [] [] (by kernel_rfl)))
  refine T_reg [] [0, 1, 5] [] (mk 41 [(0, (dt (.sl 3 (tables_1.map encTab)))), (1, (dt (.sl 6 (schemes_2.map encSch)))), (5, (di 0))] []) _ (by kernel_rfl) (z2 zt) ?_
  refine T_block ?_
  refine T_arr [] [0, 1, 5] [] [] _ (by kernel_rfl) (T_loopO (σ := Nat) (fun (i_14 : Nat) => (mk 41 [(0, (dt (.sl 3 (tables_1.map encTab)))), (1, (dt (.sl 6 (schemes_2.map encSch)))), (5, (di ((i_14 : Nat) : Int)))] [])) (g_ref42_Few_l5 tables_1 schemes_2) 0 h (fun i_14 y1 hy1 h => ?_))
  refine T_seq ?_
  refine T_reg [zn, zn, (zd (I ((tables_1.length : Nat) : Int)))] [0, 1, 5, 18] [] (mk 41 [(0, (dt (.sl 3 (tables_1.map encTab)))), (1, (dt (.sl 6 (schemes_2.map encSch)))), (5, (di ((i_14 : Nat) : Int))), (18, (db (decide (((i_14 : Nat) : Int) < ((tables_1.length : Nat) : Int)))))] []) _ (by kernel_rfl) (z5 (zc (len_s encTab tables_1) (z2 zt))) ?_
  refine T_cond (decide (((i_14 : Nat) : Int) < ((tables_1.length : Nat) : Int))) (by kernel_rfl) (fun b16 => ?_) (fun b16 => ?_)
  replace h := ite_t b16 h
  refine T_skip ?_
  refine T_seq ?_
  refine T_block ?_
  obtain ⟨x_17, e18, e19, e20, h⟩ := gn_inv encTab h
  refine T_reg [zn, zn, (zd (encTab x_17)), zn, zn, (zd (I ((x_17.l.length : Nat) : Int)))] [0, 1, 5, 27] [] (mk 41 [(0, (dt (.sl 3 (tables_1.map encTab)))), (1, (dt (.sl 6 (schemes_2.map encSch)))), (5, (di ((i_14 : Nat) : Int))), (27, (db (decide (((x_17.l.length : Nat) : Int) > 30))))] []) _ (by kernel_rfl) (z5 (zc e18 (z5 (zc (len_s encPlace x_17.l) (z2 zt))))) ?_
  refine T_cond (decide (((x_17.l.length : Nat) : Int) > 30)) (by kernel_rfl) (fun b21 => ?_) (fun b21 => ?_)
  replace h := ite_t b21 h
  refine T_reg [] [4] [] (mk 41 [(4, (db false))] []) _ (by kernel_rfl) (z2 zt) ?_
  refine T_ret ?_
  replace h := up_inv h hy1
  obtain rfl := some_inv h
  exact ret_here [(db false)] (by kernel_rfl) (.inl rfl)
  replace h := ite_f b21 h
  refine T_skip ?_
  obtain ⟨c22, h⟩ := ckI_inv h
  exact T_regJ [zn, (zd (I ((i_14 + 1 : Nat) : Int)))] [] [0, 1, 5] [] [] _ _ (by kernel_rfl) (z3 (zc c22 (z2 zt))) (fun s hs => Exists.intro (i_14 + 1) (And.intro h hs))
  replace h := ite_f b16 h
  refine T_exit ?_
  replace h := up_inv h hy1
  exact Exists.intro () (And.intro h (arr [] [1] [] [] (by kernel_rfl)))
  rcases Bool.eq_false_or_eq_true (decide (((tables_1.length : Nat) : Int) > 5)) with b23 | b23
  replace h := ite_t b23 h
  exact T_regJ [zn, (zd (I ((tables_1.length : Nat) : Int))), zn, zn, zg, zg, zg, (zd (B true))] [] [0, 1, 14] [] [] _ _ (by kernel_rfl) (z3 (zc (len_s encTab tables_1) (z4 (zc (gd_tf b23) (zc (gd_tf b23) (zc (gd_tf b23) (z1 (zc b23 zt)))))))) (fun s hs => Exists.intro true (And.intro h hs))
  replace h := ite_f b23 h
  exact T_regJ [zn, (zd (I ((tables_1.length : Nat) : Int))), zn, zn, zn, (zd (I ((schemes_2.length : Nat) : Int))), zn, (zd (B false))] [] [0, 1, 14] [] [] _ _ (by kernel_rfl) (z3 (zc (len_s encTab tables_1) (z4 (zc (gd_ff b23) (z1 (zc (gd_ff b23) (zc (len_s encSch schemes_2) (zc (gd_ff b23) (z2 (zc b23 zt)))))))))) (fun s hs => Exists.intro (decide (((schemes_2.length : Nat) : Int) > 5)) (And.intro h hs))

theorem g_ref20_numbers_ret {r_1 : Row} {r : List Int} (h : g_ref20_numbers r_1 = some r) : Ret Tryz.prog 88 [(encRow r_1)] (.sl 1 (r.map elI)) := by
  refine Ret.of_T Tryz.func88 (by kernel_rfl) rfl ?_
  refine T_turn [] [0] [] (mk 22 [(0, (.agg (qRow r_1)))] []) (by kernel_rfl) ?_
  refine T_reg [] [1] [] (mk 22 [(1, (rf 1 0))] [(1, (.var (qRow r_1)))]) _ (by kernel_rfl) (z4 zt) ?_
  refine T_reg [] [2] [1] (mk 22 [(2, (ow 21))] [(21, (.row 3 1 ([r_1.pl, r_1.wo, r_1.dr, r_1.lo, r_1.fo, r_1.ag, r_1.af, r_1.aw, r_1.ca].map elI)))]) _ (by kernel_rfl) (z8 (z8 (z8 (z8 (z5 (zc (show dfill (fun i => some (i * 1, 1)) (List.replicate (9 * 1) .junk) [(0, [(.dat (I r_1.pl))]), (1, [(.dat (I r_1.wo))]), (2, [(.dat (I r_1.dr))]), (3, [(.dat (I r_1.lo))]), (4, [(.dat (I r_1.fo))]), (5, [(.dat (I r_1.ag))]), (6, [(.dat (I r_1.af))]), (7, [(.dat (I r_1.aw))]), (8, [(.dat (I r_1.ca))])] = some ((flat ([r_1.pl, r_1.wo, r_1.dr, r_1.lo, r_1.fo, r_1.ag, r_1.af, r_1.aw, r_1.ca].map elI)).map .dat) from rfl) (z2 zt))))))) ?_
  refine T_ret ?_
  obtain rfl := some_inv h
  exact ret_here [(ow 21)] (by kernel_rfl) rfl

end Go.Proofs.YtoiiblkncbnlaaaGreat

/-
  Go functions as partial functions, printed by auto.py: what each returns when its partial function has a value. Conditions: those of each theorem.
-/
namespace Go.Proofs.YtoiiblkncbnlaaaGreat
open Go.DL
set_option maxRecDepth 100000
set_option maxHeartbeats 4000000
set_option linter.unusedVariables false
set_option linter.unusedSimpArgs false
theorem g_ref20_Check_ret {t_1 : Tab} {r : Int} (h : g_ref20_Check t_1 = some r) : Ret Tryz.prog 62 [(encTab t_1)] (I r) := by
  refine Ret.of_T Tryz.func62 (by kernel_rfl) rfl ?_
  refine T_turn [] [0] [] (mk 184 [(0, (.agg (qTab t_1)))] []) (by kernel_rfl) ?_
  refine T_reg [] [1] [] (mk 184 [(1, (rf 1 0))] [(1, (.var (qTab t_1)))]) _ (by kernel_rfl) (z4 zt) ?_
  refine T_seq ?_
  refine T_seqJ (α := Bool) (fun (v_2 : Bool) => (mk 184 [(1, (rf 1 0)), (38, (db (v_2)))] [(1, (.var (qTab t_1)))])) (fun (v_2 : Bool) => g_ref20_Check_j1 t_1 v_2 = some r) (fun v_2 h => ?_) ?_
  refine T_cond (v_2) (by kernel_rfl) (fun b3 => ?_) (fun b3 => ?_)
  replace h := ite_t b3 h
  refine T_reg [] [2] [1] (mk 184 [(2, (di 1))] []) _ (by kernel_rfl) (z2 zt) ?_
  refine T_ret ?_
  obtain rfl := some_inv h
  exact ret_here [(di 1)] (by kernel_rfl) (.inl rfl)
  replace h := ite_f b3 h
  refine T_skip ?_
  refine T_seqJ (α := Unit) (fun (_ : Unit) => (mk 184 [] [])) (fun (_ : Unit) => g_ref20_Check_j2 = some r) (fun v h => ?_) ?_
  refine T_reg [] [2] [] (mk 184 [(2, (di 0))] []) _ (by kernel_rfl) (z2 zt) ?_
  refine T_ret ?_
  obtain rfl := some_inv h
  exact ret_here [(di 0)] (by kernel_rfl) (.inl rfl)
  refine T_reg [] [1, 3] [] (mk 184 [(1, (rf 1 0)), (3, (di 0))] [(1, (.var (qTab t_1)))]) _ (by kernel_rfl) (z2 zt) ?_
  refine T_block ?_
  refine T_arr [] [1, 3] [] [1] _ (by kernel_rfl) (T_loopO (σ := Nat) (fun (i_4 : Nat) => (mk 184 [(1, (rf 1 0)), (3, (di ((i_4 : Nat) : Int)))] [(1, (.var (qTab t_1)))])) (g_ref20_Check_l3 t_1) 0 h (fun i_4 y1 hy1 h => ?_))
  refine T_seq ?_
  refine T_reg [zn, zn, zn, (zd (I ((t_1.l.length : Nat) : Int)))] [1, 3, 43] [] (mk 184 [(1, (rf 1 0)), (3, (di ((i_4 : Nat) : Int))), (43, (db (decide (((i_4 : Nat) : Int) < ((t_1.l.length : Nat) : Int)))))] [(1, (.var (qTab t_1)))]) _ (by kernel_rfl) (z7 (zc (len_s encPlace t_1.l) (z2 zt))) ?_
  refine T_cond (decide (((i_4 : Nat) : Int) < ((t_1.l.length : Nat) : Int))) (by kernel_rfl) (fun b6 => ?_) (fun b6 => ?_)
  replace h := ite_t b6 h
  refine T_skip ?_
  refine T_seqJ (α := Unit) (fun (_ : Unit) => (mk 184 [(1, (rf 1 0)), (3, (di ((i_4 : Nat) : Int)))] [(1, (.var (qTab t_1)))])) (fun (_ : Unit) => g_ref20_Check_j4 i_4 t_1 = some y1) (fun v h => ?_) ?_
  obtain ⟨c7, h⟩ := ckI_inv h
  exact T_regJ [zn, (zd (I ((i_4 + 1 : Nat) : Int)))] [] [1, 3] [] [1] _ _ (by kernel_rfl) (z3 (zc c7 (z2 zt))) (fun s hs => Exists.intro (i_4 + 1) (And.intro h hs))
  refine T_block ?_
  obtain ⟨x_8, e9, e10, e11, h⟩ := gn_inv encPlace h
  refine T_reg [zn, zn, zn, (zd (encPlace x_8))] [1, 3, 4] [] (mk 184 [(1, (rf 1 0)), (3, (di ((i_4 : Nat) : Int))), (4, (rf 4 0))] [(4, (.var (qPlace x_8))), (1, (.var (qTab t_1)))]) _ (by kernel_rfl) (z7 (zc e9 (z6 zt))) ?_
  refine T_seqJ (α := Bool) (fun (tied_12 : Bool) => (mk 184 [(1, (rf 1 0)), (3, (di ((i_4 : Nat) : Int))), (4, (rf 4 0)), (5, (db (tied_12)))] [(1, (.var (qTab t_1))), (4, (.var (qPlace x_8)))])) (fun (tied_12 : Bool) => g_ref20_Check_j5 i_4 x_8 t_1 tied_12 = some y1) (fun tied_12 h => ?_) ?_
  refine T_seq ?_
  refine T_seqJ (α := Bool) (fun (v_13 : Bool) => (mk 184 [(1, (rf 1 0)), (3, (di ((i_4 : Nat) : Int))), (4, (rf 4 0)), (5, (db (tied_12))), (90, (db (v_13)))] [(1, (.var (qTab t_1))), (4, (.var (qPlace x_8)))])) (fun (v_13 : Bool) => g_ref20_Check_j6 tied_12 x_8 i_4 t_1 v_13 = some y1) (fun v_13 h => ?_) ?_
  refine T_cond (v_13) (by kernel_rfl) (fun b14 => ?_) (fun b14 => ?_)
  replace h := ite_t b14 h
  refine T_reg [] [2] [1, 4] (mk 184 [(2, (di 1))] []) _ (by kernel_rfl) (z2 zt) ?_
  refine T_ret ?_
  replace h := up_inv h hy1
  obtain rfl := some_inv h
  exact ret_here [(di 1)] (by kernel_rfl) (.inl rfl)
  replace h := ite_f b14 h
  refine T_skip ?_
  refine T_seq ?_
  refine T_seqJ (α := Bool) (fun (v_15 : Bool) => (mk 184 [(1, (rf 1 0)), (3, (di ((i_4 : Nat) : Int))), (4, (rf 4 0)), (118, (db (v_15)))] [(1, (.var (qTab t_1))), (4, (.var (qPlace x_8)))])) (fun (v_15 : Bool) => g_ref20_Check_j7 x_8 i_4 t_1 v_15 = some y1) (fun v_15 h => ?_) ?_
  refine T_cond (v_15) (by kernel_rfl) (fun b16 => ?_) (fun b16 => ?_)
  replace h := ite_t b16 h
  refine T_reg [] [2] [1, 4] (mk 184 [(2, (di 1))] []) _ (by kernel_rfl) (z2 zt) ?_
  refine T_ret ?_
  replace h := up_inv h hy1
  obtain rfl := some_inv h
  exact ret_here [(di 1)] (by kernel_rfl) (.inl rfl)
  replace h := ite_f b16 h
  refine T_skip ?_
  refine T_seq ?_
  refine T_seqJ (α := Bool) (fun (v_17 : Bool) => (mk 184 [(1, (rf 1 0)), (3, (di ((i_4 : Nat) : Int))), (4, (rf 4 0)), (146, (db (v_17)))] [(1, (.var (qTab t_1))), (4, (.var (qPlace x_8)))])) (fun (v_17 : Bool) => g_ref20_Check_j8 x_8 i_4 t_1 v_17 = some y1) (fun v_17 h => ?_) ?_
  refine T_cond (v_17) (by kernel_rfl) (fun b18 => ?_) (fun b18 => ?_)
  replace h := ite_t b18 h
  refine T_reg [] [2] [1, 4] (mk 184 [(2, (di 1))] []) _ (by kernel_rfl) (z2 zt) ?_
  refine T_ret ?_
  replace h := up_inv h hy1
  obtain rfl := some_inv h
  exact ret_here [(di 1)] (by kernel_rfl) (.inl rfl)
  replace h := ite_f b18 h
  refine T_skip ?_
  obtain ⟨r_19, e20, h⟩ := bd_inv h
  refine T_reg [zn, zn, (zd (.sl 1 (r_19.map elI)))] [1, 3, 4, 6] [] (mk 184 [(1, (rf 1 0)), (3, (di ((i_4 : Nat) : Int))), (4, (rf 4 0)), (6, (dt (.sl 1 (r_19.map elI))))] [(1, (.var (qTab t_1))), (4, (.var (qPlace x_8)))]) _ (by kernel_rfl) (z5 (zc (g_ref20_numbers_ret e20) (z2 zt))) ?_
  refine T_seqJ (α := Unit) (fun (_ : Unit) => (mk 184 [(1, (rf 1 0)), (3, (di ((i_4 : Nat) : Int))), (4, (rf 4 0))] [(1, (.var (qTab t_1))), (4, (.var (qPlace x_8)))])) (fun (_ : Unit) => g_ref20_Check_j9 i_4 t_1 x_8 = some y1) (fun v h => ?_) ?_
  refine T_reg [] [1, 3, 4, 8] [] (mk 184 [(1, (rf 1 0)), (3, (di ((i_4 : Nat) : Int))), (4, (rf 4 0)), (8, (di 0))] [(1, (.var (qTab t_1))), (4, (.var (qPlace x_8)))]) _ (by kernel_rfl) (z2 zt) ?_
  refine T_block ?_
  refine T_arr [] [1, 3, 4, 8] [] [1, 4] _ (by kernel_rfl) (T_loopO (σ := Nat) (fun (k_21 : Nat) => (mk 184 [(1, (rf 1 0)), (3, (di ((i_4 : Nat) : Int))), (4, (rf 4 0)), (8, (di ((k_21 : Nat) : Int)))] [(1, (.var (qTab t_1))), (4, (.var (qPlace x_8)))])) (g_ref20_Check_l10 i_4 t_1 x_8) 0 h (fun k_21 y2 hy2 h => ?_))
  refine T_seq ?_
  refine T_reg [] [1, 3, 4, 8, 170] [] (mk 184 [(1, (rf 1 0)), (3, (di ((i_4 : Nat) : Int))), (4, (rf 4 0)), (8, (di ((k_21 : Nat) : Int))), (170, (db (decide (((k_21 : Nat) : Int) < ((i_4 : Nat) : Int)))))] [(1, (.var (qTab t_1))), (4, (.var (qPlace x_8)))]) _ (by kernel_rfl) (z6 zt) ?_
  refine T_cond (decide (((k_21 : Nat) : Int) < ((i_4 : Nat) : Int))) (by kernel_rfl) (fun b23 => ?_) (fun b23 => ?_)
  replace h := ite_t b23 h
  refine T_skip ?_
  refine T_seq ?_
  refine T_block ?_
  obtain ⟨x_24, e25, e26, e27, h⟩ := gn_inv encPlace h
  refine T_regD 11 [zn, zn, zn, (zd (encPlace x_24))] [1, 3, 4, 8, 183] [] (mk 184 [(1, (rf 1 0)), (3, (di ((i_4 : Nat) : Int))), (4, (rf 4 0)), (8, (di ((k_21 : Nat) : Int))), (183, (db (x_24.r.c == x_8.r.c)))] [(1, (.var (qTab t_1))), (4, (.var (qPlace x_8)))]) _ (by kernel_rfl) (by kernel_rfl) (by kernel_rfl) (zc (z7 (zc e25 (z8 (z6 zt)))) zt) ?_
  refine T_cond (x_24.r.c == x_8.r.c) (by kernel_rfl) (fun b28 => ?_) (fun b28 => ?_)
  replace h := ite_t b28 h
  refine T_reg [] [2] [1, 4] (mk 184 [(2, (di 1))] []) _ (by kernel_rfl) (z2 zt) ?_
  refine T_ret ?_
  replace h := up_inv h hy2
  replace h := up_inv h hy1
  obtain rfl := some_inv h
  exact ret_here [(di 1)] (by kernel_rfl) (.inl rfl)
  replace h := ite_f b28 h
  refine T_skip ?_
  obtain ⟨c29, h⟩ := ckI_inv h
  exact T_regJ [zn, (zd (I ((k_21 + 1 : Nat) : Int)))] [] [1, 3, 4, 8] [] [1, 4] _ _ (by kernel_rfl) (z3 (zc c29 (z2 zt))) (fun s hs => Exists.intro (k_21 + 1) (And.intro h hs))
  replace h := ite_f b23 h
  refine T_exit ?_
  replace h := up_inv h hy2
  exact Exists.intro () (And.intro h (arr [] [1, 3] [4] [1] (by kernel_rfl)))
  refine T_reg [] [1, 3, 4, 6, 7] [] (mk 184 [(1, (rf 1 0)), (3, (di ((i_4 : Nat) : Int))), (4, (rf 4 0)), (6, (dt (.sl 1 (r_19.map elI)))), (7, (di 0))] [(1, (.var (qTab t_1))), (4, (.var (qPlace x_8)))]) _ (by kernel_rfl) (z2 zt) ?_
  refine T_block ?_
  refine T_arr [] [1, 3, 4, 6, 7] [] [1, 4] _ (by kernel_rfl) (T_loopO (σ := Nat) (fun (k_30 : Nat) => (mk 184 [(1, (rf 1 0)), (3, (di ((i_4 : Nat) : Int))), (4, (rf 4 0)), (6, (dt (.sl 1 (r_19.map elI)))), (7, (di ((k_30 : Nat) : Int)))] [(1, (.var (qTab t_1))), (4, (.var (qPlace x_8)))])) (g_ref20_Check_l11 r_19 i_4 t_1 x_8) 0 h (fun k_30 y2 hy2 h => ?_))
  refine T_seq ?_
  refine T_reg [zn, zn, (zd (I ((r_19.length : Nat) : Int)))] [1, 3, 4, 6, 7, 153] [] (mk 184 [(1, (rf 1 0)), (3, (di ((i_4 : Nat) : Int))), (4, (rf 4 0)), (6, (dt (.sl 1 (r_19.map elI)))), (7, (di ((k_30 : Nat) : Int))), (153, (db (decide (((k_30 : Nat) : Int) < ((r_19.length : Nat) : Int)))))] [(1, (.var (qTab t_1))), (4, (.var (qPlace x_8)))]) _ (by kernel_rfl) (z5 (zc (len_s elI r_19) (z2 zt))) ?_
  refine T_cond (decide (((k_30 : Nat) : Int) < ((r_19.length : Nat) : Int))) (by kernel_rfl) (fun b32 => ?_) (fun b32 => ?_)
  replace h := ite_t b32 h
  refine T_skip ?_
  refine T_seq ?_
  refine T_block ?_
  refine T_seqJ (α := Bool) (fun (v_33 : Bool) => (mk 184 [(1, (rf 1 0)), (3, (di ((i_4 : Nat) : Int))), (4, (rf 4 0)), (6, (dt (.sl 1 (r_19.map elI)))), (7, (di ((k_30 : Nat) : Int))), (167, (db (v_33)))] [(1, (.var (qTab t_1))), (4, (.var (qPlace x_8)))])) (fun (v_33 : Bool) => g_ref20_Check_j12 k_30 i_4 r_19 t_1 x_8 v_33 = some y2) (fun v_33 h => ?_) ?_
  refine T_cond (v_33) (by kernel_rfl) (fun b34 => ?_) (fun b34 => ?_)
  replace h := ite_t b34 h
  refine T_reg [] [2] [1, 4] (mk 184 [(2, (di 1))] []) _ (by kernel_rfl) (z2 zt) ?_
  refine T_ret ?_
  replace h := up_inv h hy2
  replace h := up_inv h hy1
  obtain rfl := some_inv h
  exact ret_here [(di 1)] (by kernel_rfl) (.inl rfl)
  replace h := ite_f b34 h
  refine T_skip ?_
  obtain ⟨c35, h⟩ := ckI_inv h
  exact T_regJ [zn, (zd (I ((k_30 + 1 : Nat) : Int)))] [] [1, 3, 4, 6, 7] [] [1, 4] _ _ (by kernel_rfl) (z3 (zc c35 (z2 zt))) (fun s hs => Exists.intro (k_30 + 1) (And.intro h hs))
  obtain ⟨x_36, e37, e38, e39, h⟩ := gn_inv elI h
  rcases Bool.eq_false_or_eq_true (decide (x_36 < 0)) with b40 | b40
  replace h := ite_t b40 h
  exact T_regJ [zn, zn, (zd (I x_36)), zn, zn, zn, zg, zg, zg, zg, zg, (zd (B true))] [] [1, 3, 4, 6, 7, 167] [] [1, 4] _ _ (by kernel_rfl) (z5 (zc e37 (z6 (zc (gd_tf b40) (zc (gd_tf b40) (zc (gd_tf b40) (zc (gd_tf b40) (zc (gd_tf b40) (z1 (zc b40 zt)))))))))) (fun s hs => Exists.intro true (And.intro h hs))
  replace h := ite_f b40 h
  exact T_regJ (hl 12 [(2, (zd (I x_36))), (8, (zd (I x_36))), (11, (zd (B false)))]) [] [1, 3, 4, 6, 7, 167] [] [1, 4] _ _ (by kernel_rfl) (z5 (zc e37 (z6 (zc (gd_ff b40) (z1 (zc (gd_ff b40) (z1 (zc (gd_ff b40) (zc e37 (zc (gd_ff b40) (z1 (zc (gd_ff b40) (z2 (zc b40 zt)))))))))))))) (fun s hs => Exists.intro (decide (x_36 > 9999)) (And.intro h hs))
  replace h := ite_f b32 h
  refine T_exit ?_
  replace h := up_inv h hy2
  exact Exists.intro () (And.intro h (arr [] [1, 3, 4] [] [1, 4] (by kernel_rfl)))
  rcases Bool.eq_false_or_eq_true (decide (((x_8.z.length : Nat) : Int) > 24)) with b41 | b41
  replace h := ite_t b41 h
  exact T_regJ [zn, zn, zn, zn, zn, zg, zg, zg, zg, (zd (B true)), zn, zg, zg, zg, zg, (zd (B true)), zn, zg, zg, zg, zg, (zd (B true)), zn, zg, zg, zg, zg, (zd (B true))] [] [1, 3, 4, 146] [] [1, 4] _ _ (by kernel_rfl) (z8 (z2 (zc (gd_tf b41) (zc (gd_tf b41) (zc (gd_tf b41) (zc (gd_tf b41) (z1 (zc b41 (z2 (zc (gd_tf (rfl : true = true)) (zc (gd_tf (rfl : true = true)) (zc (gd_tf (rfl : true = true)) (zc (gd_tf (rfl : true = true)) (z1 (zc (rfl : true = true) (z2 (zc (gd_tf (rfl : true = true)) (zc (gd_tf (rfl : true = true)) (zc (gd_tf (rfl : true = true)) (zc (gd_tf (rfl : true = true)) (z1 (zc (rfl : true = true) (z2 (zc (gd_tf (rfl : true = true)) (zc (gd_tf (rfl : true = true)) (zc (gd_tf (rfl : true = true)) (zc (gd_tf (rfl : true = true)) (z1 (zc (rfl : true = true) zt))))))))))))))))))))))))))))) (fun s hs => Exists.intro true (And.intro h hs))
  replace h := ite_f b41 h
  rcases Bool.eq_false_or_eq_true (decide (x_8.r.c < 0)) with b42 | b42
  replace h := ite_t b42 h
  exact T_regJ [zn, zn, zn, zn, zn, zn, zn, zn, zn, (zd (B false)), zn, zg, zg, zg, zg, (zd (B true)), zn, zg, zg, zg, zg, (zd (B true)), zn, zg, zg, zg, zg, (zd (B true))] [] [1, 3, 4, 146] [] [1, 4] _ _ (by kernel_rfl) (z8 (z2 (zc (gd_ff b41) (z1 (zc (gd_ff b41) (z1 (zc (gd_ff b41) (z1 (zc (gd_ff b41) (z2 (zc b41 (z2 (zc (gd_tf b42) (zc (gd_tf b42) (zc (gd_tf b42) (zc (gd_tf b42) (z1 (zc b42 (z2 (zc (gd_tf (rfl : true = true)) (zc (gd_tf (rfl : true = true)) (zc (gd_tf (rfl : true = true)) (zc (gd_tf (rfl : true = true)) (z1 (zc (rfl : true = true) (z2 (zc (gd_tf (rfl : true = true)) (zc (gd_tf (rfl : true = true)) (zc (gd_tf (rfl : true = true)) (zc (gd_tf (rfl : true = true)) (z1 (zc (rfl : true = true) zt)))))))))))))))))))))))))))))))) (fun s hs => Exists.intro true (And.intro h hs))
  replace h := ite_f b42 h
  rcases Bool.eq_false_or_eq_true (decide (x_8.r.c ≥ 192)) with b43 | b43
  replace h := ite_t b43 h
  exact T_regJ [zn, zn, zn, zn, zn, zn, zn, zn, zn, (zd (B false)), zn, zn, zn, zn, zn, (zd (B false)), zn, zg, zg, zg, zg, (zd (B true)), zn, zg, zg, zg, zg, (zd (B true))] [] [1, 3, 4, 146] [] [1, 4] _ _ (by kernel_rfl) (z8 (z2 (zc (gd_ff b41) (z1 (zc (gd_ff b41) (z1 (zc (gd_ff b41) (z1 (zc (gd_ff b41) (z2 (zc b41 (z2 (zc (gd_ff b42) (z1 (zc (gd_ff b42) (z1 (zc (gd_ff b42) (z1 (zc (gd_ff b42) (z2 (zc b42 (z2 (zc (gd_tf b43) (zc (gd_tf b43) (zc (gd_tf b43) (zc (gd_tf b43) (z1 (zc b43 (z2 (zc (gd_tf (rfl : true = true)) (zc (gd_tf (rfl : true = true)) (zc (gd_tf (rfl : true = true)) (zc (gd_tf (rfl : true = true)) (z1 (zc (rfl : true = true) zt))))))))))))))))))))))))))))))))))) (fun s hs => Exists.intro true (And.intro h hs))
  replace h := ite_f b43 h
  rcases Bool.eq_false_or_eq_true (decide (x_8.r.po < (-99999))) with b44 | b44
  replace h := ite_t b44 h
  exact T_regJ (hl 28 [(9, (zd (B false))), (15, (zd (B false))), (21, (zd (B false))), (23, zg), (24, zg), (25, zg), (26, zg), (27, (zd (B true)))]) [] [1, 3, 4, 146] [] [1, 4] _ _ (by kernel_rfl) (z8 (z2 (zc (gd_ff b41) (z1 (zc (gd_ff b41) (z1 (zc (gd_ff b41) (z1 (zc (gd_ff b41) (z2 (zc b41 (z2 (zc (gd_ff b42) (z1 (zc (gd_ff b42) (z1 (zc (gd_ff b42) (z1 (zc (gd_ff b42) (z2 (zc b42 (z2 (zc (gd_ff b43) (z1 (zc (gd_ff b43) (z1 (zc (gd_ff b43) (z1 (zc (gd_ff b43) (z2 (zc b43 (z2 (zc (gd_tf b44) (zc (gd_tf b44) (zc (gd_tf b44) (zc (gd_tf b44) (z1 (zc b44 zt)))))))))))))))))))))))))))))))))))))) (fun s hs => Exists.intro true (And.intro h hs))
  replace h := ite_f b44 h
  exact T_regJ (hl 28 [(9, (zd (B false))), (15, (zd (B false))), (21, (zd (B false))), (27, (zd (B false)))]) [] [1, 3, 4, 146] [] [1, 4] _ _ (by kernel_rfl) (z8 (z2 (zc (gd_ff b41) (z1 (zc (gd_ff b41) (z1 (zc (gd_ff b41) (z1 (zc (gd_ff b41) (z2 (zc b41 (z2 (zc (gd_ff b42) (z1 (zc (gd_ff b42) (z1 (zc (gd_ff b42) (z1 (zc (gd_ff b42) (z2 (zc b42 (z2 (zc (gd_ff b43) (z1 (zc (gd_ff b43) (z1 (zc (gd_ff b43) (z1 (zc (gd_ff b43) (z2 (zc b43 (z2 (zc (gd_ff b44) (z1 (zc (gd_ff b44) (z1 (zc (gd_ff b44) (z1 (zc (gd_ff b44) (z2 (zc b44 zt))))))))))))))))))))))))))))))))))))))))) (fun s hs => Exists.intro (decide (x_8.r.po > 99999)) (And.intro h hs))
  rcases Bool.eq_false_or_eq_true (tied_12) with b45 | b45
  replace h := ite_t b45 h
  rcases Bool.eq_false_or_eq_true (x_8.b != 0) with b46 | b46
  replace h := ite_t b46 h
  exact T_regJ [zn, zn, zg, zg, (zd (B true)), zn, zn, zn, zn, (zd (B true)), zn, zg, zg, zg, zn, zn, zg, zg, zn, zn, zn, zn, zn, zn, zn, zn, zg, (zd (B true))] [] [1, 3, 4, 118] [] [1, 4] _ _ (by kernel_rfl) (z4 (zc (gd_tf b45) (zc (gd_tf b45) (z1 (zc b45 (z2 (zc (gd_tt (rfl : true = true)) (z1 (zc (gd_tt (rfl : true = true)) (z1 (zc (gd_tt (rfl : true = true)) (z2 (zc (rfl : true = true) (z2 (zc (gd_tf b46) (zc (gd_tf b46) (zc (gd_tf b46) (z2 (zc (gd_tf b46) (zc (gd_tf b46) (z8 (zc (gd_tf b46) (z1 (zc b46 zt)))))))))))))))))))))))) (fun s hs => Exists.intro true (And.intro h hs))
  replace h := ite_f b46 h
  exact T_regJ [zn, zn, zg, zg, (zd (B true)), zn, zn, zn, zn, (zd (B true)), zn, zn, zn, zn, zg, zg, (zd (B false)), zn, zg, zg, zg, zg, zn, zn, zn, zg, (zd (B false)), (zd (B false))] [] [1, 3, 4, 118] [] [1, 4] _ _ (by kernel_rfl) (z4 (zc (gd_tf b45) (zc (gd_tf b45) (z1 (zc b45 (z2 (zc (gd_tt (rfl : true = true)) (z1 (zc (gd_tt (rfl : true = true)) (z1 (zc (gd_tt (rfl : true = true)) (z2 (zc (rfl : true = true) (z2 (zc (gd_ff b46) (z1 (zc (gd_ff b46) (z1 (zc (gd_ff b46) (z1 (zc (gd_ft (f_not b45)) (zc (gd_ft (f_not b45)) (zc (gd_ff b46) (zc (f_not b45) (zc (gd_ff b46) (z1 (zc (gd_ft (rfl : false = false)) (zc (gd_ft (rfl : false = false)) (zc (gd_ft (rfl : false = false)) (zc (gd_ft (rfl : false = false)) (z3 (zc (gd_ft (rfl : false = false)) (zc (gd_ff b46) (zc (rfl : false = false) (z1 (zc b46 zt)))))))))))))))))))))))))))))))))))) (fun s hs => Exists.intro false (And.intro h hs))
  replace h := ite_f b45 h
  rcases Bool.eq_false_or_eq_true (((i_4 : Nat) : Int) == 0) with b47 | b47
  replace h := ite_t b47 h
  rcases Bool.eq_false_or_eq_true (x_8.b != 0) with b48 | b48
  replace h := ite_t b48 h
  exact T_regJ (hl 28 [(4, (zd (B false))), (9, (zd (B true))), (11, zg), (12, zg), (13, zg), (16, zg), (17, zg), (26, zg), (27, (zd (B true)))]) [] [1, 3, 4, 118] [] [1, 4] _ _ (by kernel_rfl) (z4 (zc (gd_ff b45) (z1 (zc (gd_ff b45) (z2 (zc b45 (z2 (zc (gd_tt b47) (z1 (zc (gd_tt b47) (z1 (zc (gd_tt b47) (z2 (zc b47 (z2 (zc (gd_tf b48) (zc (gd_tf b48) (zc (gd_tf b48) (z2 (zc (gd_tf b48) (zc (gd_tf b48) (z8 (zc (gd_tf b48) (z1 (zc b48 zt))))))))))))))))))))))))) (fun s hs => Exists.intro true (And.intro h hs))
  replace h := ite_f b48 h
  rcases Bool.eq_false_or_eq_true (decide (((i_4 : Nat) : Int) > 0)) with b49 | b49
  replace h := ite_t b49 h
  rcases Bool.eq_false_or_eq_true (decide (x_8.b < 1)) with b50 | b50
  replace h := ite_t b50 h
  exact T_regJ (hl 28 [(4, (zd (B false))), (9, (zd (B true))), (16, (zd (B true))), (22, zg), (23, zg), (24, zg), (25, (zd (B true))), (26, (zd (B true))), (27, (zd (B false)))]) [] [1, 3, 4, 118] [] [1, 4] _ _ (by kernel_rfl) (z4 (zc (gd_ff b45) (z1 (zc (gd_ff b45) (z2 (zc b45 (z2 (zc (gd_tt b47) (z1 (zc (gd_tt b47) (z1 (zc (gd_tt b47) (z2 (zc b47 (z2 (zc (gd_ff b48) (z1 (zc (gd_ff b48) (z1 (zc (gd_ff b48) (z1 (zc (gd_tt (t_not b45)) (z1 (zc (gd_tt (t_not b45)) (z1 (zc (gd_ff b48) (zc (t_not b45) (zc (gd_ff b48) (z1 (zc (gd_tt b49) (z1 (zc (gd_tt b49) (z1 (zc (gd_tt b49) (z1 (zc (gd_tt b49) (z1 (zc (gd_tf b50) (zc (gd_tf b50) (zc (gd_tf b50) (zc (gd_tt b49) (zc b50 (zc (gd_ff b48) (zc b49 (z1 (zc b48 zt)))))))))))))))))))))))))))))))))))))))))))))) (fun s hs => Exists.intro true (And.intro h hs))
  replace h := ite_f b50 h
  exact T_regJ (hl 28 [(4, (zd (B false))), (9, (zd (B true))), (16, (zd (B true))), (25, (zd (B false))), (26, (zd (B true))), (27, (zd (B false)))]) [] [1, 3, 4, 118] [] [1, 4] _ _ (by kernel_rfl) (z4 (zc (gd_ff b45) (z1 (zc (gd_ff b45) (z2 (zc b45 (z2 (zc (gd_tt b47) (z1 (zc (gd_tt b47) (z1 (zc (gd_tt b47) (z2 (zc b47 (z2 (zc (gd_ff b48) (z1 (zc (gd_ff b48) (z1 (zc (gd_ff b48) (z1 (zc (gd_tt (t_not b45)) (z1 (zc (gd_tt (t_not b45)) (z1 (zc (gd_ff b48) (zc (t_not b45) (zc (gd_ff b48) (z1 (zc (gd_tt b49) (z1 (zc (gd_tt b49) (z1 (zc (gd_tt b49) (z1 (zc (gd_tt b49) (z1 (zc (gd_ff b50) (z1 (zc (gd_ff b50) (z1 (zc (gd_ff b50) (z1 (zc (gd_tt b49) (zc b50 (zc (gd_ff b48) (zc b49 (z1 (zc b48 zt))))))))))))))))))))))))))))))))))))))))))))))))) (fun s hs => Exists.intro (decide (x_8.b > 12)) (And.intro h hs))
  replace h := ite_f b49 h
  exact T_regJ (hl 28 [(4, (zd (B false))), (9, (zd (B true))), (16, (zd (B true))), (18, zg), (19, zg), (20, zg), (21, zg), (25, zg), (26, (zd (B false))), (27, (zd (B false)))]) [] [1, 3, 4, 118] [] [1, 4] _ _ (by kernel_rfl) (z4 (zc (gd_ff b45) (z1 (zc (gd_ff b45) (z2 (zc b45 (z2 (zc (gd_tt b47) (z1 (zc (gd_tt b47) (z1 (zc (gd_tt b47) (z2 (zc b47 (z2 (zc (gd_ff b48) (z1 (zc (gd_ff b48) (z1 (zc (gd_ff b48) (z1 (zc (gd_tt (t_not b45)) (z1 (zc (gd_tt (t_not b45)) (z1 (zc (gd_ff b48) (zc (t_not b45) (zc (gd_ff b48) (z1 (zc (gd_ft b49) (zc (gd_ft b49) (zc (gd_ft b49) (zc (gd_ft b49) (z3 (zc (gd_ft b49) (zc (gd_ff b48) (zc b49 (z1 (zc b48 zt))))))))))))))))))))))))))))))))))))))) (fun s hs => Exists.intro false (And.intro h hs))
  replace h := ite_f b47 h
  rcases Bool.eq_false_or_eq_true (decide (((i_4 : Nat) : Int) > 0)) with b51 | b51
  replace h := ite_t b51 h
  rcases Bool.eq_false_or_eq_true (decide (x_8.b < 1)) with b52 | b52
  replace h := ite_t b52 h
  exact T_regJ [zn, zn, zn, zn, (zd (B false)), zn, zg, zg, zg, (zd (B false)), zn, zn, zn, zn, zn, zn, (zd (B true)), zn, zn, zn, zn, zn, zg, zg, zg, (zd (B true)), (zd (B true)), (zd (B false))] [] [1, 3, 4, 118] [] [1, 4] _ _ (by kernel_rfl) (z4 (zc (gd_ff b45) (z1 (zc (gd_ff b45) (z2 (zc b45 (z2 (zc (gd_ft b47) (zc (gd_ft b47) (zc (gd_ft b47) (z1 (zc b47 (z2 (zc (gd_ff (rfl : false = false)) (z1 (zc (gd_ff (rfl : false = false)) (z1 (zc (gd_ff (rfl : false = false)) (z1 (zc (gd_tt (t_not b45)) (z1 (zc (gd_tt (t_not b45)) (z1 (zc (gd_ff (rfl : false = false)) (zc (t_not b45) (zc (gd_ff (rfl : false = false)) (z1 (zc (gd_tt b51) (z1 (zc (gd_tt b51) (z1 (zc (gd_tt b51) (z1 (zc (gd_tt b51) (z1 (zc (gd_tf b52) (zc (gd_tf b52) (zc (gd_tf b52) (zc (gd_tt b51) (zc b52 (zc (gd_ff (rfl : false = false)) (zc b51 (z1 (zc (rfl : false = false) zt)))))))))))))))))))))))))))))))))))))))))))) (fun s hs => Exists.intro true (And.intro h hs))
  replace h := ite_f b52 h
  exact T_regJ (hl 28 [(4, (zd (B false))), (6, zg), (7, zg), (8, zg), (9, (zd (B false))), (16, (zd (B true))), (25, (zd (B false))), (26, (zd (B true))), (27, (zd (B false)))]) [] [1, 3, 4, 118] [] [1, 4] _ _ (by kernel_rfl) (z4 (zc (gd_ff b45) (z1 (zc (gd_ff b45) (z2 (zc b45 (z2 (zc (gd_ft b47) (zc (gd_ft b47) (zc (gd_ft b47) (z1 (zc b47 (z2 (zc (gd_ff (rfl : false = false)) (z1 (zc (gd_ff (rfl : false = false)) (z1 (zc (gd_ff (rfl : false = false)) (z1 (zc (gd_tt (t_not b45)) (z1 (zc (gd_tt (t_not b45)) (z1 (zc (gd_ff (rfl : false = false)) (zc (t_not b45) (zc (gd_ff (rfl : false = false)) (z1 (zc (gd_tt b51) (z1 (zc (gd_tt b51) (z1 (zc (gd_tt b51) (z1 (zc (gd_tt b51) (z1 (zc (gd_ff b52) (z1 (zc (gd_ff b52) (z1 (zc (gd_ff b52) (z1 (zc (gd_tt b51) (zc b52 (zc (gd_ff (rfl : false = false)) (zc b51 (z1 (zc (rfl : false = false) zt))))))))))))))))))))))))))))))))))))))))))))))) (fun s hs => Exists.intro (decide (x_8.b > 12)) (And.intro h hs))
  replace h := ite_f b51 h
  exact T_regJ [zn, zn, zn, zn, (zd (B false)), zn, zg, zg, zg, (zd (B false)), zn, zn, zn, zn, zn, zn, (zd (B true)), zn, zg, zg, zg, zg, zn, zn, zn, zg, (zd (B false)), (zd (B false))] [] [1, 3, 4, 118] [] [1, 4] _ _ (by kernel_rfl) (z4 (zc (gd_ff b45) (z1 (zc (gd_ff b45) (z2 (zc b45 (z2 (zc (gd_ft b47) (zc (gd_ft b47) (zc (gd_ft b47) (z1 (zc b47 (z2 (zc (gd_ff (rfl : false = false)) (z1 (zc (gd_ff (rfl : false = false)) (z1 (zc (gd_ff (rfl : false = false)) (z1 (zc (gd_tt (t_not b45)) (z1 (zc (gd_tt (t_not b45)) (z1 (zc (gd_ff (rfl : false = false)) (zc (t_not b45) (zc (gd_ff (rfl : false = false)) (z1 (zc (gd_ft b51) (zc (gd_ft b51) (zc (gd_ft b51) (zc (gd_ft b51) (z3 (zc (gd_ft b51) (zc (gd_ff (rfl : false = false)) (zc b51 (z1 (zc (rfl : false = false) zt))))))))))))))))))))))))))))))))))))) (fun s hs => Exists.intro false (And.intro h hs))
  rcases Bool.eq_false_or_eq_true (!(tied_12)) with b53 | b53
  replace h := ite_t b53 h
  obtain ⟨c54, h⟩ := ckI_inv h
  rcases Bool.eq_false_or_eq_true (x_8.k != ((i_4 + 1 : Nat) : Int)) with b55 | b55
  replace h := ite_t b55 h
  exact T_regJD 26 (hl 26 [(6, (zd (I ((i_4 + 1 : Nat) : Int)))), (8, (zd (B true))), (10, zg), (11, zg), (24, zg), (25, (zd (B true)))]) [] [1, 3, 4, 5, 90] [] [1, 4] _ _ (by kernel_rfl) (by kernel_rfl) (by kernel_rfl) (zc (z6 (zc (gd_tt b53) (z1 (zc (gd_tt b53) (z1 (zc (gd_tt b53) (z1 (zc (gd_tt b53) (zc c54 (zc (gd_tt b53) (z2 (zc b53 (z2 (zc (gd_tf b55) (zc (gd_tf b55) (z8 (z4 (zc (gd_tf b55) (z1 (zc b55 zt)))))))))))))))))))) zt) (fun s hs => Exists.intro true (And.intro h hs))
  replace h := ite_f b55 h
  exact T_regJD 26 [zn, zn, zn, zn, zn, zn, (zd (I ((i_4 + 1 : Nat) : Int))), zn, (zd (B true)), zn, zn, zn, zg, zg, zg, zg, zg, zg, zg, zg, zg, zg, zg, zg, (zd (B false)), (zd (B false))] [] [1, 3, 4, 5, 90] [] [1, 4] _ _ (by kernel_rfl) (by kernel_rfl) (by kernel_rfl) (zc (z6 (zc (gd_tt b53) (z1 (zc (gd_tt b53) (z1 (zc (gd_tt b53) (z1 (zc (gd_tt b53) (zc c54 (zc (gd_tt b53) (z2 (zc b53 (z2 (zc (gd_ff b55) (z1 (zc (gd_ff b55) (z1 (zc (gd_ft (not_t b53)) (zc (gd_ft (not_t b53)) (zc (gd_ft (not_t b53)) (zc (gd_ft (not_t b53)) (zc (gd_ft (not_t b53)) (zc (gd_ft (not_t b53)) (zc (gd_ft (not_t b53)) (zc (gd_ft (not_t b53)) (zc (gd_ft (not_t b53)) (zc (gd_ft (not_t b53)) (zc (gd_ft (not_t b53)) (zc (gd_ft (not_t b53)) (zc (gd_ff b55) (zc (not_t b53) (z1 (zc b55 zt))))))))))))))))))))))))))))))))) zt) (fun s hs => Exists.intro false (And.intro h hs))
  replace h := ite_f b53 h
  obtain ⟨c56, h⟩ := ckI_inv h
  obtain ⟨x_57, e58, e59, e60, h⟩ := gt_inv encPlace h
  exact T_regJD 26 (hl 26 [(3, zg), (4, zg), (5, zg), (6, zg), (7, zg), (8, (zd (B false))), (18, (zd (I (((i_4 : Nat) : Int) - 1)))), (19, (zd (encPlace x_57))), (24, (zd (B true))), (25, (zd (B false)))]) [] [1, 3, 4, 5, 90] [] [1, 4] _ _ (by kernel_rfl) (by kernel_rfl) (by kernel_rfl) (zc (z6 (zc (gd_ft b53) (zc (gd_ft b53) (zc (gd_ft b53) (zc (gd_ft b53) (zc (gd_ft b53) (z1 (zc b53 (z2 (zc (gd_ff (rfl : false = false)) (z1 (zc (gd_ff (rfl : false = false)) (z1 (zc (gd_tt (not_f b53)) (z1 (zc (gd_tt (not_f b53)) (z1 (zc (gd_tt (not_f b53)) (z1 (zc (gd_tt (not_f b53)) (z1 (zc (gd_tt (not_f b53)) (z1 (zc (gd_tt (not_f b53)) (z1 (zc (gd_tt (not_f b53)) (zc c56 (zc (gd_tt (not_f b53)) (zc e58 (zc (gd_tt (not_f b53)) (z1 (zc (gd_tt (not_f b53)) (z1 (zc (gd_tt (not_f b53)) (z1 (zc (gd_tt (not_f b53)) (z1 (zc (gd_ff (rfl : false = false)) (zc (not_f b53) (z1 (zc (rfl : false = false) zt))))))))))))))))))))))))))))))))))))))))) zt) (fun s hs => Exists.intro (decide (x_8.r.c ≤ x_57.r.c)) (And.intro h hs))
  rcases Bool.eq_false_or_eq_true (decide (((i_4 : Nat) : Int) > 0)) with b61 | b61
  replace h := ite_t b61 h
  obtain ⟨c62, h⟩ := ckI_inv h
  obtain ⟨x_63, e64, e65, e66, h⟩ := gt_inv encPlace h
  exact T_regJD 15 (hl 14 [(8, (zd (I (((i_4 : Nat) : Int) - 1)))), (9, (zd (encPlace x_63))), (13, (zd (B true)))]) [] [1, 3, 4, 5] [] [1, 4] _ _ (by kernel_rfl) (by kernel_rfl) (by kernel_rfl) (zc (z6 (zc (gd_tt b61) (z1 (zc (gd_tt b61) (z1 (zc (gd_tt b61) (z1 (zc (gd_tt b61) (z1 (zc (gd_tt b61) (z1 (zc (gd_tt b61) (zc c62 (zc (gd_tt b61) (zc e64 (zc (gd_tt b61) (z1 (zc (gd_tt b61) (z1 (zc (gd_tt b61) (z2 (zc b61 (z2 zt))))))))))))))))))))))) zt) (fun s hs => Exists.intro (x_8.k == x_63.k) (And.intro h hs))
  replace h := ite_f b61 h
  exact T_regJD 15 [zn, zn, zn, zg, zg, zg, zg, zg, zg, zg, zg, zg, zg, (zd (B false))] [] [1, 3, 4, 5] [] [1, 4] _ _ (by kernel_rfl) (by kernel_rfl) (by kernel_rfl) (zc (z6 (zc (gd_ft b61) (zc (gd_ft b61) (zc (gd_ft b61) (zc (gd_ft b61) (zc (gd_ft b61) (zc (gd_ft b61) (zc (gd_ft b61) (zc (gd_ft b61) (zc (gd_ft b61) (zc (gd_ft b61) (z1 (zc b61 (z2 zt)))))))))))))) zt) (fun s hs => Exists.intro false (And.intro h hs))
  replace h := ite_f b6 h
  refine T_exit ?_
  replace h := up_inv h hy1
  exact Exists.intro () (And.intro h (arr [] [] [1] [] (by kernel_rfl)))
  rcases Bool.eq_false_or_eq_true (decide (t_1.s < 0)) with b67 | b67
  replace h := ite_t b67 h
  exact T_regJ [zn, zn, zn, zn, zg, zg, zg, (zd (B true)), zn, zg, zg, zg, (zd (B true)), zn, zg, zg, zg, (zd (B true)), zn, zg, zg, zg, zg, (zd (B true)), zn, zg, zg, zg, zg, (zd (B true))] [] [1, 38] [] [1] _ _ (by kernel_rfl) (z8 (zc (gd_tf b67) (zc (gd_tf b67) (zc (gd_tf b67) (z1 (zc b67 (z2 (zc (gd_tf (rfl : true = true)) (zc (gd_tf (rfl : true = true)) (zc (gd_tf (rfl : true = true)) (z1 (zc (rfl : true = true) (z2 (zc (gd_tf (rfl : true = true)) (zc (gd_tf (rfl : true = true)) (zc (gd_tf (rfl : true = true)) (z1 (zc (rfl : true = true) (z2 (zc (gd_tf (rfl : true = true)) (zc (gd_tf (rfl : true = true)) (zc (gd_tf (rfl : true = true)) (zc (gd_tf (rfl : true = true)) (z1 (zc (rfl : true = true) (z2 (zc (gd_tf (rfl : true = true)) (zc (gd_tf (rfl : true = true)) (zc (gd_tf (rfl : true = true)) (zc (gd_tf (rfl : true = true)) (z1 (zc (rfl : true = true) zt)))))))))))))))))))))))))))))))) (fun s hs => Exists.intro true (And.intro h hs))
  replace h := ite_f b67 h
  rcases Bool.eq_false_or_eq_true (decide (t_1.s ≥ 64)) with b68 | b68
  replace h := ite_t b68 h
  exact T_regJ [zn, zn, zn, zn, zn, zn, zn, (zd (B false)), zn, zg, zg, zg, (zd (B true)), zn, zg, zg, zg, (zd (B true)), zn, zg, zg, zg, zg, (zd (B true)), zn, zg, zg, zg, zg, (zd (B true))] [] [1, 38] [] [1] _ _ (by kernel_rfl) (z8 (zc (gd_ff b67) (z1 (zc (gd_ff b67) (z1 (zc (gd_ff b67) (z2 (zc b67 (z2 (zc (gd_tf b68) (zc (gd_tf b68) (zc (gd_tf b68) (z1 (zc b68 (z2 (zc (gd_tf (rfl : true = true)) (zc (gd_tf (rfl : true = true)) (zc (gd_tf (rfl : true = true)) (z1 (zc (rfl : true = true) (z2 (zc (gd_tf (rfl : true = true)) (zc (gd_tf (rfl : true = true)) (zc (gd_tf (rfl : true = true)) (zc (gd_tf (rfl : true = true)) (z1 (zc (rfl : true = true) (z2 (zc (gd_tf (rfl : true = true)) (zc (gd_tf (rfl : true = true)) (zc (gd_tf (rfl : true = true)) (zc (gd_tf (rfl : true = true)) (z1 (zc (rfl : true = true) zt)))))))))))))))))))))))))))))))))) (fun s hs => Exists.intro true (And.intro h hs))
  replace h := ite_f b68 h
  rcases Bool.eq_false_or_eq_true (decide (t_1.c < 0)) with b69 | b69
  replace h := ite_t b69 h
  exact T_regJ [zn, zn, zn, zn, zn, zn, zn, (zd (B false)), zn, zn, zn, zn, (zd (B false)), zn, zg, zg, zg, (zd (B true)), zn, zg, zg, zg, zg, (zd (B true)), zn, zg, zg, zg, zg, (zd (B true))] [] [1, 38] [] [1] _ _ (by kernel_rfl) (z8 (zc (gd_ff b67) (z1 (zc (gd_ff b67) (z1 (zc (gd_ff b67) (z2 (zc b67 (z2 (zc (gd_ff b68) (z1 (zc (gd_ff b68) (z1 (zc (gd_ff b68) (z2 (zc b68 (z2 (zc (gd_tf b69) (zc (gd_tf b69) (zc (gd_tf b69) (z1 (zc b69 (z2 (zc (gd_tf (rfl : true = true)) (zc (gd_tf (rfl : true = true)) (zc (gd_tf (rfl : true = true)) (zc (gd_tf (rfl : true = true)) (z1 (zc (rfl : true = true) (z2 (zc (gd_tf (rfl : true = true)) (zc (gd_tf (rfl : true = true)) (zc (gd_tf (rfl : true = true)) (zc (gd_tf (rfl : true = true)) (z1 (zc (rfl : true = true) zt)))))))))))))))))))))))))))))))))))) (fun s hs => Exists.intro true (And.intro h hs))
  replace h := ite_f b69 h
  rcases Bool.eq_false_or_eq_true (decide (t_1.c ≥ 16)) with b70 | b70
  replace h := ite_t b70 h
  exact T_regJ [zn, zn, zn, zn, zn, zn, zn, (zd (B false)), zn, zn, zn, zn, (zd (B false)), zn, zn, zn, zn, (zd (B false)), zn, zg, zg, zg, zg, (zd (B true)), zn, zg, zg, zg, zg, (zd (B true))] [] [1, 38] [] [1] _ _ (by kernel_rfl) (z8 (zc (gd_ff b67) (z1 (zc (gd_ff b67) (z1 (zc (gd_ff b67) (z2 (zc b67 (z2 (zc (gd_ff b68) (z1 (zc (gd_ff b68) (z1 (zc (gd_ff b68) (z2 (zc b68 (z2 (zc (gd_ff b69) (z1 (zc (gd_ff b69) (z1 (zc (gd_ff b69) (z2 (zc b69 (z2 (zc (gd_tf b70) (zc (gd_tf b70) (zc (gd_tf b70) (zc (gd_tf b70) (z1 (zc b70 (z2 (zc (gd_tf (rfl : true = true)) (zc (gd_tf (rfl : true = true)) (zc (gd_tf (rfl : true = true)) (zc (gd_tf (rfl : true = true)) (z1 (zc (rfl : true = true) zt)))))))))))))))))))))))))))))))))))))) (fun s hs => Exists.intro true (And.intro h hs))
  replace h := ite_f b70 h
  rcases Bool.eq_false_or_eq_true (decide (((t_1.l.length : Nat) : Int) < 2)) with b71 | b71
  replace h := ite_t b71 h
  exact T_regJ (hl 30 [(7, (zd (B false))), (12, (zd (B false))), (17, (zd (B false))), (21, (zd (I ((t_1.l.length : Nat) : Int)))), (23, (zd (B false))), (25, zg), (26, zg), (27, zg), (28, zg), (29, (zd (B true)))]) [] [1, 38] [] [1] _ _ (by kernel_rfl) (z8 (zc (gd_ff b67) (z1 (zc (gd_ff b67) (z1 (zc (gd_ff b67) (z2 (zc b67 (z2 (zc (gd_ff b68) (z1 (zc (gd_ff b68) (z1 (zc (gd_ff b68) (z2 (zc b68 (z2 (zc (gd_ff b69) (z1 (zc (gd_ff b69) (z1 (zc (gd_ff b69) (z2 (zc b69 (z2 (zc (gd_ff b70) (z1 (zc (gd_ff b70) (z1 (zc (gd_ff b70) (zc (len_s encPlace t_1.l) (zc (gd_ff b70) (z2 (zc b70 (z2 (zc (gd_tf b71) (zc (gd_tf b71) (zc (gd_tf b71) (zc (gd_tf b71) (z1 (zc b71 zt))))))))))))))))))))))))))))))))))))))))) (fun s hs => Exists.intro true (And.intro h hs))
  replace h := ite_f b71 h
  exact T_regJ (hl 30 [(7, (zd (B false))), (12, (zd (B false))), (17, (zd (B false))), (21, (zd (I ((t_1.l.length : Nat) : Int)))), (23, (zd (B false))), (27, (zd (I ((t_1.l.length : Nat) : Int)))), (29, (zd (B false)))]) [] [1, 38] [] [1] _ _ (by kernel_rfl) (z8 (zc (gd_ff b67) (z1 (zc (gd_ff b67) (z1 (zc (gd_ff b67) (z2 (zc b67 (z2 (zc (gd_ff b68) (z1 (zc (gd_ff b68) (z1 (zc (gd_ff b68) (z2 (zc b68 (z2 (zc (gd_ff b69) (z1 (zc (gd_ff b69) (z1 (zc (gd_ff b69) (z2 (zc b69 (z2 (zc (gd_ff b70) (z1 (zc (gd_ff b70) (z1 (zc (gd_ff b70) (zc (len_s encPlace t_1.l) (zc (gd_ff b70) (z2 (zc b70 (z2 (zc (gd_ff b71) (z1 (zc (gd_ff b71) (z1 (zc (gd_ff b71) (zc (len_s encPlace t_1.l) (zc (gd_ff b71) (z2 (zc b71 zt)))))))))))))))))))))))))))))))))))))))))))) (fun s hs => Exists.intro (decide (((t_1.l.length : Nat) : Int) > 24)) (And.intro h hs))

end Go.Proofs.YtoiiblkncbnlaaaGreat

/-
  Go functions as partial functions, printed by auto.py: what each returns when its partial function has a value. Conditions: those of each theorem.
-/
namespace Go.Proofs.YtoiiblkncbnlaaaGreat
open Go.DL
set_option maxRecDepth 100000
set_option maxHeartbeats 4000000
set_option linter.unusedVariables false
set_option linter.unusedSimpArgs false
theorem g_ref42_Check_ret {s_1 : Sch} {r : Int} (h : g_ref42_Check s_1 = some r) : Ret Tryz.prog 15 [(encSch s_1)] (I r) := by
  refine Ret.of_T Tryz.func15 (by kernel_rfl) rfl ?_
  refine T_turn [] [0] [] (mk 163 [(0, (.agg (qSch s_1)))] []) (by kernel_rfl) ?_
  refine T_reg [] [1] [] (mk 163 [(1, (rf 1 0))] [(1, (.var (qSch s_1)))]) _ (by kernel_rfl) (z4 zt) ?_
  refine T_seq ?_
  refine T_seqJ (α := Bool) (fun (v_2 : Bool) => (mk 163 [(1, (rf 1 0)), (39, (db (v_2)))] [(1, (.var (qSch s_1)))])) (fun (v_2 : Bool) => g_ref42_Check_j1 s_1 v_2 = some r) (fun v_2 h => ?_) ?_
  refine T_cond (v_2) (by kernel_rfl) (fun b3 => ?_) (fun b3 => ?_)
  replace h := ite_t b3 h
  refine T_reg [] [2] [1] (mk 163 [(2, (di 420))] []) _ (by kernel_rfl) (z2 zt) ?_
  refine T_ret ?_
  obtain rfl := some_inv h
  exact ret_here [(di 420)] (by kernel_rfl) (.inl rfl)
  replace h := ite_f b3 h
  refine T_skip ?_
  refine T_reg [] [1, 3] [] (mk 163 [(1, (rf 1 0)), (3, (di 0))] [(1, (.var (qSch s_1)))]) _ (by kernel_rfl) (z2 zt) ?_
  refine T_seqJ (α := Int) (fun (sum_4 : Int) => (mk 163 [(1, (rf 1 0)), (3, (di sum_4))] [(1, (.var (qSch s_1)))])) (fun (sum_4 : Int) => g_ref42_Check_j2 s_1 sum_4 = some r) (fun sum_4 h => ?_) ?_
  refine T_seq ?_
  refine T_seqJ (α := Bool) (fun (v_5 : Bool) => (mk 163 [(1, (rf 1 0)), (144, (db (v_5)))] [(1, (.var (qSch s_1)))])) (fun (v_5 : Bool) => g_ref42_Check_j3 s_1 v_5 = some r) (fun v_5 h => ?_) ?_
  refine T_cond (v_5) (by kernel_rfl) (fun b6 => ?_) (fun b6 => ?_)
  replace h := ite_t b6 h
  refine T_reg [] [2] [1] (mk 163 [(2, (di 420))] []) _ (by kernel_rfl) (z2 zt) ?_
  refine T_ret ?_
  obtain rfl := some_inv h
  exact ret_here [(di 420)] (by kernel_rfl) (.inl rfl)
  replace h := ite_f b6 h
  refine T_skip ?_
  refine T_seq ?_
  refine T_seqJ (α := Bool) (fun (v_7 : Bool) => (mk 163 [(162, (db (v_7)))] [])) (fun (v_7 : Bool) => g_ref42_Check_j4 v_7 = some r) (fun v_7 h => ?_) ?_
  refine T_cond (v_7) (by kernel_rfl) (fun b8 => ?_) (fun b8 => ?_)
  replace h := ite_t b8 h
  refine T_reg [] [2] [] (mk 163 [(2, (di 420))] []) _ (by kernel_rfl) (z2 zt) ?_
  refine T_ret ?_
  obtain rfl := some_inv h
  exact ret_here [(di 420)] (by kernel_rfl) (.inl rfl)
  replace h := ite_f b8 h
  refine T_skip ?_
  refine T_reg [] [2] [] (mk 163 [(2, (di 0))] []) _ (by kernel_rfl) (z2 zt) ?_
  refine T_ret ?_
  obtain rfl := some_inv h
  exact ret_here [(di 0)] (by kernel_rfl) (.inl rfl)
  rcases Bool.eq_false_or_eq_true (s_1.ab == (-1)) with b9 | b9
  replace h := ite_t b9 h
  rcases Bool.eq_false_or_eq_true (s_1.u != 0) with b10 | b10
  replace h := ite_t b10 h
  exact T_regJ [zn, zn, zn, zn, zn, zn, zn, (zd (B true)), zn, zg, zg, zg, zg, zn, zn, zn, zg, (zd (B true))] [] [162] [1] [] _ _ (by kernel_rfl) (z8 (zc (gd_tt b9) (z1 (zc (gd_tt b9) (z1 (zc (gd_tt b9) (z2 (zc b9 (z2 (zc (gd_tf b10) (zc (gd_tf b10) (zc (gd_tf b10) (zc (gd_tf b10) (z3 (zc (gd_tf b10) (z1 (zc b10 zt))))))))))))))))) (fun s hs => Exists.intro true (And.intro h hs))
  replace h := ite_f b10 h
  rcases Bool.eq_false_or_eq_true (s_1.be == (-1)) with b11 | b11
  replace h := ite_t b11 h
  exact T_regJ (hl 18 [(7, (zd (B true))), (16, (zd (B true))), (17, (zd (B false)))]) [] [162] [1] [] _ _ (by kernel_rfl) (z8 (zc (gd_tt b9) (z1 (zc (gd_tt b9) (z1 (zc (gd_tt b9) (z2 (zc b9 (z2 (zc (gd_ff b10) (z1 (zc (gd_ff b10) (z1 (zc (gd_ff b10) (z1 (zc (gd_ff b10) (z1 (zc (gd_tt b11) (z1 (zc (gd_tt b11) (z1 (zc (gd_tt b11) (z1 (zc (gd_ff b10) (zc b11 (z1 (zc b10 zt))))))))))))))))))))))))))) (fun s hs => Exists.intro (s_1.d != 0) (And.intro h hs))
  replace h := ite_f b11 h
  exact T_regJ (hl 18 [(7, (zd (B true))), (13, zg), (14, zg), (15, zg), (16, (zd (B false))), (17, (zd (B false)))]) [] [162] [1] [] _ _ (by kernel_rfl) (z8 (zc (gd_tt b9) (z1 (zc (gd_tt b9) (z1 (zc (gd_tt b9) (z2 (zc b9 (z2 (zc (gd_ff b10) (z1 (zc (gd_ff b10) (z1 (zc (gd_ff b10) (z1 (zc (gd_ff b10) (z1 (zc (gd_ft b11) (zc (gd_ft b11) (zc (gd_ft b11) (zc (gd_ff b10) (zc b11 (z1 (zc b10 zt)))))))))))))))))))))))) (fun s hs => Exists.intro false (And.intro h hs))
  replace h := ite_f b9 h
  rcases Bool.eq_false_or_eq_true (s_1.be == (-1)) with b12 | b12
  replace h := ite_t b12 h
  exact T_regJ (hl 18 [(4, zg), (5, zg), (6, zg), (7, (zd (B false))), (16, (zd (B true))), (17, (zd (B false)))]) [] [162] [1] [] _ _ (by kernel_rfl) (z8 (zc (gd_ft b9) (zc (gd_ft b9) (zc (gd_ft b9) (z1 (zc b9 (z2 (zc (gd_ff (rfl : false = false)) (z1 (zc (gd_ff (rfl : false = false)) (z1 (zc (gd_ff (rfl : false = false)) (z1 (zc (gd_ff (rfl : false = false)) (z1 (zc (gd_tt b12) (z1 (zc (gd_tt b12) (z1 (zc (gd_tt b12) (z1 (zc (gd_ff (rfl : false = false)) (zc b12 (z1 (zc (rfl : false = false) zt))))))))))))))))))))))))) (fun s hs => Exists.intro (s_1.d != 0) (And.intro h hs))
  replace h := ite_f b12 h
  exact T_regJ [zn, zn, zn, zn, zg, zg, zg, (zd (B false)), zn, zn, zn, zn, zn, zg, zg, zg, (zd (B false)), (zd (B false))] [] [162] [1] [] _ _ (by kernel_rfl) (z8 (zc (gd_ft b9) (zc (gd_ft b9) (zc (gd_ft b9) (z1 (zc b9 (z2 (zc (gd_ff (rfl : false = false)) (z1 (zc (gd_ff (rfl : false = false)) (z1 (zc (gd_ff (rfl : false = false)) (z1 (zc (gd_ff (rfl : false = false)) (z1 (zc (gd_ft b12) (zc (gd_ft b12) (zc (gd_ft b12) (zc (gd_ff (rfl : false = false)) (zc b12 (z1 (zc (rfl : false = false) zt)))))))))))))))))))))) (fun s hs => Exists.intro false (And.intro h hs))
  rcases Bool.eq_false_or_eq_true (decide (sum_4 > 1125899906842624)) with b13 | b13
  replace h := ite_t b13 h
  exact T_regJ [zn, zn, zn, zg, zg, zg, (zd (B true)), zn, zg, zg, zg, (zd (B true)), zn, zg, zg, zg, (zd (B true)), zn, zg, zg, zg, (zd (B true)), zn, zg, zg, zg, zg, zg, (zd (B true)), zn, zg, zg, zg, zg, zg, (zd (B true)), zn, zg, zg, zg, zg, zg, zg, zn, zn, zn, zg, (zd (B true))] [] [1, 144] [] [1] _ _ (by kernel_rfl) (z6 (zc (gd_tf b13) (zc (gd_tf b13) (zc (gd_tf b13) (z1 (zc b13 (z2 (zc (gd_tf (rfl : true = true)) (zc (gd_tf (rfl : true = true)) (zc (gd_tf (rfl : true = true)) (z1 (zc (rfl : true = true) (z2 (zc (gd_tf (rfl : true = true)) (zc (gd_tf (rfl : true = true)) (zc (gd_tf (rfl : true = true)) (z1 (zc (rfl : true = true) (z2 (zc (gd_tf (rfl : true = true)) (zc (gd_tf (rfl : true = true)) (zc (gd_tf (rfl : true = true)) (z1 (zc (rfl : true = true) (z2 (zc (gd_tf (rfl : true = true)) (zc (gd_tf (rfl : true = true)) (zc (gd_tf (rfl : true = true)) (zc (gd_tf (rfl : true = true)) (zc (gd_tf (rfl : true = true)) (z1 (zc (rfl : true = true) (z2 (zc (gd_tf (rfl : true = true)) (zc (gd_tf (rfl : true = true)) (zc (gd_tf (rfl : true = true)) (zc (gd_tf (rfl : true = true)) (zc (gd_tf (rfl : true = true)) (z1 (zc (rfl : true = true) (z2 (zc (gd_tf (rfl : true = true)) (zc (gd_tf (rfl : true = true)) (zc (gd_tf (rfl : true = true)) (zc (gd_tf (rfl : true = true)) (zc (gd_tf (rfl : true = true)) (zc (gd_tf (rfl : true = true)) (z3 (zc (gd_tf (rfl : true = true)) (z1 (zc (rfl : true = true) zt))))))))))))))))))))))))))))))))))))))))))))))))))) (fun s hs => Exists.intro true (And.intro h hs))
  replace h := ite_f b13 h
  rcases Bool.eq_false_or_eq_true (decide (s_1.ab < (-1))) with b14 | b14
  replace h := ite_t b14 h
  exact T_regJ [zn, zn, zn, zn, zn, zn, (zd (B false)), zn, zg, zg, zg, (zd (B true)), zn, zg, zg, zg, (zd (B true)), zn, zg, zg, zg, (zd (B true)), zn, zg, zg, zg, zg, zg, (zd (B true)), zn, zg, zg, zg, zg, zg, (zd (B true)), zn, zg, zg, zg, zg, zg, zg, zn, zn, zn, zg, (zd (B true))] [] [1, 144] [] [1] _ _ (by kernel_rfl) (z6 (zc (gd_ff b13) (z1 (zc (gd_ff b13) (z1 (zc (gd_ff b13) (z2 (zc b13 (z2 (zc (gd_tf b14) (zc (gd_tf b14) (zc (gd_tf b14) (z1 (zc b14 (z2 (zc (gd_tf (rfl : true = true)) (zc (gd_tf (rfl : true = true)) (zc (gd_tf (rfl : true = true)) (z1 (zc (rfl : true = true) (z2 (zc (gd_tf (rfl : true = true)) (zc (gd_tf (rfl : true = true)) (zc (gd_tf (rfl : true = true)) (z1 (zc (rfl : true = true) (z2 (zc (gd_tf (rfl : true = true)) (zc (gd_tf (rfl : true = true)) (zc (gd_tf (rfl : true = true)) (zc (gd_tf (rfl : true = true)) (zc (gd_tf (rfl : true = true)) (z1 (zc (rfl : true = true) (z2 (zc (gd_tf (rfl : true = true)) (zc (gd_tf (rfl : true = true)) (zc (gd_tf (rfl : true = true)) (zc (gd_tf (rfl : true = true)) (zc (gd_tf (rfl : true = true)) (z1 (zc (rfl : true = true) (z2 (zc (gd_tf (rfl : true = true)) (zc (gd_tf (rfl : true = true)) (zc (gd_tf (rfl : true = true)) (zc (gd_tf (rfl : true = true)) (zc (gd_tf (rfl : true = true)) (zc (gd_tf (rfl : true = true)) (z3 (zc (gd_tf (rfl : true = true)) (z1 (zc (rfl : true = true) zt))))))))))))))))))))))))))))))))))))))))))))))))))))) (fun s hs => Exists.intro true (And.intro h hs))
  replace h := ite_f b14 h
  rcases Bool.eq_false_or_eq_true (decide (s_1.ab ≥ 8)) with b15 | b15
  replace h := ite_t b15 h
  exact T_regJ [zn, zn, zn, zn, zn, zn, (zd (B false)), zn, zn, zn, zn, (zd (B false)), zn, zg, zg, zg, (zd (B true)), zn, zg, zg, zg, (zd (B true)), zn, zg, zg, zg, zg, zg, (zd (B true)), zn, zg, zg, zg, zg, zg, (zd (B true)), zn, zg, zg, zg, zg, zg, zg, zn, zn, zn, zg, (zd (B true))] [] [1, 144] [] [1] _ _ (by kernel_rfl) (z6 (zc (gd_ff b13) (z1 (zc (gd_ff b13) (z1 (zc (gd_ff b13) (z2 (zc b13 (z2 (zc (gd_ff b14) (z1 (zc (gd_ff b14) (z1 (zc (gd_ff b14) (z2 (zc b14 (z2 (zc (gd_tf b15) (zc (gd_tf b15) (zc (gd_tf b15) (z1 (zc b15 (z2 (zc (gd_tf (rfl : true = true)) (zc (gd_tf (rfl : true = true)) (zc (gd_tf (rfl : true = true)) (z1 (zc (rfl : true = true) (z2 (zc (gd_tf (rfl : true = true)) (zc (gd_tf (rfl : true = true)) (zc (gd_tf (rfl : true = true)) (zc (gd_tf (rfl : true = true)) (zc (gd_tf (rfl : true = true)) (z1 (zc (rfl : true = true) (z2 (zc (gd_tf (rfl : true = true)) (zc (gd_tf (rfl : true = true)) (zc (gd_tf (rfl : true = true)) (zc (gd_tf (rfl : true = true)) (zc (gd_tf (rfl : true = true)) (z1 (zc (rfl : true = true) (z2 (zc (gd_tf (rfl : true = true)) (zc (gd_tf (rfl : true = true)) (zc (gd_tf (rfl : true = true)) (zc (gd_tf (rfl : true = true)) (zc (gd_tf (rfl : true = true)) (zc (gd_tf (rfl : true = true)) (z3 (zc (gd_tf (rfl : true = true)) (z1 (zc (rfl : true = true) zt))))))))))))))))))))))))))))))))))))))))))))))))))))))) (fun s hs => Exists.intro true (And.intro h hs))
  replace h := ite_f b15 h
  rcases Bool.eq_false_or_eq_true (decide (s_1.be < (-1))) with b16 | b16
  replace h := ite_t b16 h
  exact T_regJ [zn, zn, zn, zn, zn, zn, (zd (B false)), zn, zn, zn, zn, (zd (B false)), zn, zn, zn, zn, (zd (B false)), zn, zg, zg, zg, (zd (B true)), zn, zg, zg, zg, zg, zg, (zd (B true)), zn, zg, zg, zg, zg, zg, (zd (B true)), zn, zg, zg, zg, zg, zg, zg, zn, zn, zn, zg, (zd (B true))] [] [1, 144] [] [1] _ _ (by kernel_rfl) (z6 (zc (gd_ff b13) (z1 (zc (gd_ff b13) (z1 (zc (gd_ff b13) (z2 (zc b13 (z2 (zc (gd_ff b14) (z1 (zc (gd_ff b14) (z1 (zc (gd_ff b14) (z2 (zc b14 (z2 (zc (gd_ff b15) (z1 (zc (gd_ff b15) (z1 (zc (gd_ff b15) (z2 (zc b15 (z2 (zc (gd_tf b16) (zc (gd_tf b16) (zc (gd_tf b16) (z1 (zc b16 (z2 (zc (gd_tf (rfl : true = true)) (zc (gd_tf (rfl : true = true)) (zc (gd_tf (rfl : true = true)) (zc (gd_tf (rfl : true = true)) (zc (gd_tf (rfl : true = true)) (z1 (zc (rfl : true = true) (z2 (zc (gd_tf (rfl : true = true)) (zc (gd_tf (rfl : true = true)) (zc (gd_tf (rfl : true = true)) (zc (gd_tf (rfl : true = true)) (zc (gd_tf (rfl : true = true)) (z1 (zc (rfl : true = true) (z2 (zc (gd_tf (rfl : true = true)) (zc (gd_tf (rfl : true = true)) (zc (gd_tf (rfl : true = true)) (zc (gd_tf (rfl : true = true)) (zc (gd_tf (rfl : true = true)) (zc (gd_tf (rfl : true = true)) (z3 (zc (gd_tf (rfl : true = true)) (z1 (zc (rfl : true = true) zt))))))))))))))))))))))))))))))))))))))))))))))))))))))))) (fun s hs => Exists.intro true (And.intro h hs))
  replace h := ite_f b16 h
  rcases Bool.eq_false_or_eq_true (decide (s_1.be ≥ 8)) with b17 | b17
  replace h := ite_t b17 h
  exact T_regJ [zn, zn, zn, zn, zn, zn, (zd (B false)), zn, zn, zn, zn, (zd (B false)), zn, zn, zn, zn, (zd (B false)), zn, zn, zn, zn, (zd (B false)), zn, zg, zg, zg, zg, zg, (zd (B true)), zn, zg, zg, zg, zg, zg, (zd (B true)), zn, zg, zg, zg, zg, zg, zg, zn, zn, zn, zg, (zd (B true))] [] [1, 144] [] [1] _ _ (by kernel_rfl) (z6 (zc (gd_ff b13) (z1 (zc (gd_ff b13) (z1 (zc (gd_ff b13) (z2 (zc b13 (z2 (zc (gd_ff b14) (z1 (zc (gd_ff b14) (z1 (zc (gd_ff b14) (z2 (zc b14 (z2 (zc (gd_ff b15) (z1 (zc (gd_ff b15) (z1 (zc (gd_ff b15) (z2 (zc b15 (z2 (zc (gd_ff b16) (z1 (zc (gd_ff b16) (z1 (zc (gd_ff b16) (z2 (zc b16 (z2 (zc (gd_tf b17) (zc (gd_tf b17) (zc (gd_tf b17) (zc (gd_tf b17) (zc (gd_tf b17) (z1 (zc b17 (z2 (zc (gd_tf (rfl : true = true)) (zc (gd_tf (rfl : true = true)) (zc (gd_tf (rfl : true = true)) (zc (gd_tf (rfl : true = true)) (zc (gd_tf (rfl : true = true)) (z1 (zc (rfl : true = true) (z2 (zc (gd_tf (rfl : true = true)) (zc (gd_tf (rfl : true = true)) (zc (gd_tf (rfl : true = true)) (zc (gd_tf (rfl : true = true)) (zc (gd_tf (rfl : true = true)) (zc (gd_tf (rfl : true = true)) (z3 (zc (gd_tf (rfl : true = true)) (z1 (zc (rfl : true = true) zt))))))))))))))))))))))))))))))))))))))))))))))))))))))))))) (fun s hs => Exists.intro true (And.intro h hs))
  replace h := ite_f b17 h
  rcases Bool.eq_false_or_eq_true (s_1.ab == s_1.c) with b18 | b18
  replace h := ite_t b18 h
  exact T_regJ [zn, zn, zn, zn, zn, zn, (zd (B false)), zn, zn, zn, zn, (zd (B false)), zn, zn, zn, zn, (zd (B false)), zn, zn, zn, zn, (zd (B false)), zn, zn, zn, zn, zn, zn, (zd (B false)), zn, zg, zg, zg, zg, zg, (zd (B true)), zn, zg, zg, zg, zg, zg, zg, zn, zn, zn, zg, (zd (B true))] [] [1, 144] [] [1] _ _ (by kernel_rfl) (z6 (zc (gd_ff b13) (z1 (zc (gd_ff b13) (z1 (zc (gd_ff b13) (z2 (zc b13 (z2 (zc (gd_ff b14) (z1 (zc (gd_ff b14) (z1 (zc (gd_ff b14) (z2 (zc b14 (z2 (zc (gd_ff b15) (z1 (zc (gd_ff b15) (z1 (zc (gd_ff b15) (z2 (zc b15 (z2 (zc (gd_ff b16) (z1 (zc (gd_ff b16) (z1 (zc (gd_ff b16) (z2 (zc b16 (z2 (zc (gd_ff b17) (z1 (zc (gd_ff b17) (z1 (zc (gd_ff b17) (z1 (zc (gd_ff b17) (z1 (zc (gd_ff b17) (z2 (zc b17 (z2 (zc (gd_tf b18) (zc (gd_tf b18) (zc (gd_tf b18) (zc (gd_tf b18) (zc (gd_tf b18) (z1 (zc b18 (z2 (zc (gd_tf (rfl : true = true)) (zc (gd_tf (rfl : true = true)) (zc (gd_tf (rfl : true = true)) (zc (gd_tf (rfl : true = true)) (zc (gd_tf (rfl : true = true)) (zc (gd_tf (rfl : true = true)) (z3 (zc (gd_tf (rfl : true = true)) (z1 (zc (rfl : true = true) zt))))))))))))))))))))))))))))))))))))))))))))))))))))))))))))))) (fun s hs => Exists.intro true (And.intro h hs))
  replace h := ite_f b18 h
  rcases Bool.eq_false_or_eq_true (s_1.be == s_1.c) with b19 | b19
  replace h := ite_t b19 h
  exact T_regJ (hl 48 [(6, (zd (B false))), (11, (zd (B false))), (16, (zd (B false))), (21, (zd (B false))), (28, (zd (B false))), (35, (zd (B false))), (37, zg), (38, zg), (39, zg), (40, zg), (41, zg), (42, zg), (46, zg), (47, (zd (B true)))]) [] [1, 144] [] [1] _ _ (by kernel_rfl) (z6 (zc (gd_ff b13) (z1 (zc (gd_ff b13) (z1 (zc (gd_ff b13) (z2 (zc b13 (z2 (zc (gd_ff b14) (z1 (zc (gd_ff b14) (z1 (zc (gd_ff b14) (z2 (zc b14 (z2 (zc (gd_ff b15) (z1 (zc (gd_ff b15) (z1 (zc (gd_ff b15) (z2 (zc b15 (z2 (zc (gd_ff b16) (z1 (zc (gd_ff b16) (z1 (zc (gd_ff b16) (z2 (zc b16 (z2 (zc (gd_ff b17) (z1 (zc (gd_ff b17) (z1 (zc (gd_ff b17) (z1 (zc (gd_ff b17) (z1 (zc (gd_ff b17) (z2 (zc b17 (z2 (zc (gd_ff b18) (z1 (zc (gd_ff b18) (z1 (zc (gd_ff b18) (z1 (zc (gd_ff b18) (z1 (zc (gd_ff b18) (z2 (zc b18 (z2 (zc (gd_tf b19) (zc (gd_tf b19) (zc (gd_tf b19) (zc (gd_tf b19) (zc (gd_tf b19) (zc (gd_tf b19) (z3 (zc (gd_tf b19) (z1 (zc b19 zt))))))))))))))))))))))))))))))))))))))))))))))))))))))))))))))))))) (fun s hs => Exists.intro true (And.intro h hs))
  replace h := ite_f b19 h
  rcases Bool.eq_false_or_eq_true (s_1.ab == s_1.be) with b20 | b20
  replace h := ite_t b20 h
  exact T_regJ (hl 48 [(6, (zd (B false))), (11, (zd (B false))), (16, (zd (B false))), (21, (zd (B false))), (28, (zd (B false))), (35, (zd (B false))), (46, (zd (B true))), (47, (zd (B false)))]) [] [1, 144] [] [1] _ _ (by kernel_rfl) (z6 (zc (gd_ff b13) (z1 (zc (gd_ff b13) (z1 (zc (gd_ff b13) (z2 (zc b13 (z2 (zc (gd_ff b14) (z1 (zc (gd_ff b14) (z1 (zc (gd_ff b14) (z2 (zc b14 (z2 (zc (gd_ff b15) (z1 (zc (gd_ff b15) (z1 (zc (gd_ff b15) (z2 (zc b15 (z2 (zc (gd_ff b16) (z1 (zc (gd_ff b16) (z1 (zc (gd_ff b16) (z2 (zc b16 (z2 (zc (gd_ff b17) (z1 (zc (gd_ff b17) (z1 (zc (gd_ff b17) (z1 (zc (gd_ff b17) (z1 (zc (gd_ff b17) (z2 (zc b17 (z2 (zc (gd_ff b18) (z1 (zc (gd_ff b18) (z1 (zc (gd_ff b18) (z1 (zc (gd_ff b18) (z1 (zc (gd_ff b18) (z2 (zc b18 (z2 (zc (gd_ff b19) (z1 (zc (gd_ff b19) (z1 (zc (gd_ff b19) (z1 (zc (gd_ff b19) (z1 (zc (gd_ff b19) (z1 (zc (gd_ff b19) (z1 (zc (gd_tt b20) (z1 (zc (gd_tt b20) (z1 (zc (gd_tt b20) (z1 (zc (gd_ff b19) (zc b20 (z1 (zc b19 zt))))))))))))))))))))))))))))))))))))))))))))))))))))))))))))))))))))))))))))))) (fun s hs => Exists.intro (s_1.ab != (-1)) (And.intro h hs))
  replace h := ite_f b20 h
  exact T_regJ (hl 48 [(6, (zd (B false))), (11, (zd (B false))), (16, (zd (B false))), (21, (zd (B false))), (28, (zd (B false))), (35, (zd (B false))), (43, zg), (44, zg), (45, zg), (46, (zd (B false))), (47, (zd (B false)))]) [] [1, 144] [] [1] _ _ (by kernel_rfl) (z6 (zc (gd_ff b13) (z1 (zc (gd_ff b13) (z1 (zc (gd_ff b13) (z2 (zc b13 (z2 (zc (gd_ff b14) (z1 (zc (gd_ff b14) (z1 (zc (gd_ff b14) (z2 (zc b14 (z2 (zc (gd_ff b15) (z1 (zc (gd_ff b15) (z1 (zc (gd_ff b15) (z2 (zc b15 (z2 (zc (gd_ff b16) (z1 (zc (gd_ff b16) (z1 (zc (gd_ff b16) (z2 (zc b16 (z2 (zc (gd_ff b17) (z1 (zc (gd_ff b17) (z1 (zc (gd_ff b17) (z1 (zc (gd_ff b17) (z1 (zc (gd_ff b17) (z2 (zc b17 (z2 (zc (gd_ff b18) (z1 (zc (gd_ff b18) (z1 (zc (gd_ff b18) (z1 (zc (gd_ff b18) (z1 (zc (gd_ff b18) (z2 (zc b18 (z2 (zc (gd_ff b19) (z1 (zc (gd_ff b19) (z1 (zc (gd_ff b19) (z1 (zc (gd_ff b19) (z1 (zc (gd_ff b19) (z1 (zc (gd_ff b19) (z1 (zc (gd_ft b20) (zc (gd_ft b20) (zc (gd_ft b20) (zc (gd_ff b19) (zc b20 (z1 (zc b19 zt)))))))))))))))))))))))))))))))))))))))))))))))))))))))))))))))))))))))))))) (fun s hs => Exists.intro false (And.intro h hs))
  refine T_reg [] [1, 3, 4] [] (mk 163 [(1, (rf 1 0)), (3, (di 0)), (4, (di 0))] [(1, (.var (qSch s_1)))]) _ (by kernel_rfl) (z2 zt) ?_
  refine T_block ?_
  refine T_arr [] [1, 3, 4] [] [1] _ (by kernel_rfl) (T_loopO (σ := Int × Nat) (fun ((sum_21, i_22) : Int × Nat) => (mk 163 [(1, (rf 1 0)), (3, (di sum_21)), (4, (di ((i_22 : Nat) : Int)))] [(1, (.var (qSch s_1)))])) (g_ref42_Check_l5 s_1) (0, 0) h (fun v y1 hy1 h => ?_))
  obtain ⟨sum_21, i_22⟩ := v
  refine T_seq ?_
  refine T_reg [zn, zn, zn, (zd (I ((s_1.p.length : Nat) : Int)))] [1, 3, 4, 44] [] (mk 163 [(1, (rf 1 0)), (3, (di sum_21)), (4, (di ((i_22 : Nat) : Int))), (44, (db (decide (((i_22 : Nat) : Int) < ((s_1.p.length : Nat) : Int)))))] [(1, (.var (qSch s_1)))]) _ (by kernel_rfl) (z7 (zc (len_s encPrize s_1.p) (z2 zt))) ?_
  refine T_cond (decide (((i_22 : Nat) : Int) < ((s_1.p.length : Nat) : Int))) (by kernel_rfl) (fun b25 => ?_) (fun b25 => ?_)
  replace h := ite_t b25 h
  refine T_skip ?_
  refine T_seq ?_
  refine T_block ?_
  obtain ⟨x_26, e27, e28, e29, h⟩ := gn_inv encPrize h
  refine T_reg [zn, zn, zn, (zd (encPrize x_26))] [1, 3, 4, 5] [] (mk 163 [(1, (rf 1 0)), (3, (di sum_21)), (4, (di ((i_22 : Nat) : Int))), (5, (rf 5 0))] [(5, (.var (qPrize x_26))), (1, (.var (qSch s_1)))]) _ (by kernel_rfl) (z7 (zc e27 (z6 zt))) ?_
  refine T_seq ?_
  refine T_seqJ (α := Bool) (fun (v_30 : Bool) => (mk 163 [(1, (rf 1 0)), (3, (di sum_21)), (4, (di ((i_22 : Nat) : Int))), (5, (rf 5 0)), (92, (db (v_30)))] [(1, (.var (qSch s_1))), (5, (.var (qPrize x_26)))])) (fun (v_30 : Bool) => g_ref42_Check_j6 sum_21 x_26 i_22 s_1 v_30 = some y1) (fun v_30 h => ?_) ?_
  refine T_cond (v_30) (by kernel_rfl) (fun b31 => ?_) (fun b31 => ?_)
  replace h := ite_t b31 h
  refine T_reg [] [2] [1, 5] (mk 163 [(2, (di 420))] []) _ (by kernel_rfl) (z2 zt) ?_
  refine T_ret ?_
  replace h := up_inv h hy1
  obtain rfl := some_inv h
  exact ret_here [(di 420)] (by kernel_rfl) (.inl rfl)
  replace h := ite_f b31 h
  refine T_skip ?_
  obtain ⟨c32, h⟩ := ckI_inv h
  refine T_regE [zn, zn, zn, (zd (I (sum_21 + x_26.a)))] (mk 163 [(1, (rf 1 0)), (3, (di (sum_21 + x_26.a))), (4, (di ((i_22 : Nat) : Int))), (5, (rf 5 0)), (92, (db (v_30))), (93, (di sum_21)), (94, (rf 5 2)), (95, (di x_26.a)), (96, (di (sum_21 + x_26.a)))] [(1, (.var (qSch s_1))), (5, (.var (qPrize x_26)))]) _ (by kernel_rfl) (z7 (zc c32 (z2 zt))) ?_
  obtain ⟨c33, h⟩ := ckI_inv h
  exact T_regJ [zn, (zd (I ((i_22 + 1 : Nat) : Int)))] [] [1, 3, 4] [5] [1] _ _ (by kernel_rfl) (z3 (zc c33 (z2 zt))) (fun s hs => Exists.intro ((sum_21 + x_26.a), i_22 + 1) (And.intro h hs))
  rcases Bool.eq_false_or_eq_true (decide (x_26.f < 1)) with b34 | b34
  replace h := ite_t b34 h
  exact T_regJD 41 [zn, zn, zn, zn, zg, zg, zg, zg, zg, (zd (B true)), zn, zg, zg, zg, (zd (B true)), zn, zg, zg, zg, (zd (B true)), zn, zg, zg, zg, (zd (B true)), zn, zg, zg, zg, zn, zn, zn, zn, zn, zn, zn, zn, zn, zn, zg, (zd (B true))] [] [1, 3, 4, 5, 92] [] [1, 5] _ _ (by kernel_rfl) (by kernel_rfl) (by kernel_rfl) (zc (z8 (zc (gd_tf b34) (zc (gd_tf b34) (zc (gd_tf b34) (zc (gd_tf b34) (zc (gd_tf b34) (z1 (zc b34 (z2 (zc (gd_tf (rfl : true = true)) (zc (gd_tf (rfl : true = true)) (zc (gd_tf (rfl : true = true)) (z1 (zc (rfl : true = true) (z2 (zc (gd_tf (rfl : true = true)) (zc (gd_tf (rfl : true = true)) (zc (gd_tf (rfl : true = true)) (z1 (zc (rfl : true = true) (z2 (zc (gd_tf (rfl : true = true)) (zc (gd_tf (rfl : true = true)) (zc (gd_tf (rfl : true = true)) (z1 (zc (rfl : true = true) (z2 (zc (gd_tf (rfl : true = true)) (zc (gd_tf (rfl : true = true)) (zc (gd_tf (rfl : true = true)) (z8 (z2 (zc (gd_tf (rfl : true = true)) (z1 (zc (rfl : true = true) zt))))))))))))))))))))))))))))))))))) zt) (fun s hs => Exists.intro true (And.intro h hs))
  replace h := ite_f b34 h
  rcases Bool.eq_false_or_eq_true (decide (x_26.t < x_26.f)) with b35 | b35
  replace h := ite_t b35 h
  exact T_regJD 41 [zn, zn, zn, zn, zn, zn, zn, zn, zn, (zd (B false)), zn, zg, zg, zg, (zd (B true)), zn, zg, zg, zg, (zd (B true)), zn, zg, zg, zg, (zd (B true)), zn, zg, zg, zg, zn, zn, zn, zn, zn, zn, zn, zn, zn, zn, zg, (zd (B true))] [] [1, 3, 4, 5, 92] [] [1, 5] _ _ (by kernel_rfl) (by kernel_rfl) (by kernel_rfl) (zc (z8 (zc (gd_ff b34) (z1 (zc (gd_ff b34) (z1 (zc (gd_ff b34) (z1 (zc (gd_ff b34) (z1 (zc (gd_ff b34) (z2 (zc b34 (z2 (zc (gd_tf b35) (zc (gd_tf b35) (zc (gd_tf b35) (z1 (zc b35 (z2 (zc (gd_tf (rfl : true = true)) (zc (gd_tf (rfl : true = true)) (zc (gd_tf (rfl : true = true)) (z1 (zc (rfl : true = true) (z2 (zc (gd_tf (rfl : true = true)) (zc (gd_tf (rfl : true = true)) (zc (gd_tf (rfl : true = true)) (z1 (zc (rfl : true = true) (z2 (zc (gd_tf (rfl : true = true)) (zc (gd_tf (rfl : true = true)) (zc (gd_tf (rfl : true = true)) (z8 (z2 (zc (gd_tf (rfl : true = true)) (z1 (zc (rfl : true = true) zt))))))))))))))))))))))))))))))))))))))) zt) (fun s hs => Exists.intro true (And.intro h hs))
  replace h := ite_f b35 h
  rcases Bool.eq_false_or_eq_true (decide (x_26.t > 24)) with b36 | b36
  replace h := ite_t b36 h
  exact T_regJD 41 (hl 41 [(9, (zd (B false))), (14, (zd (B false))), (16, zg), (17, zg), (18, zg), (19, (zd (B true))), (21, zg), (22, zg), (23, zg), (24, (zd (B true))), (26, zg), (27, zg), (28, zg), (39, zg), (40, (zd (B true)))]) [] [1, 3, 4, 5, 92] [] [1, 5] _ _ (by kernel_rfl) (by kernel_rfl) (by kernel_rfl) (zc (z8 (zc (gd_ff b34) (z1 (zc (gd_ff b34) (z1 (zc (gd_ff b34) (z1 (zc (gd_ff b34) (z1 (zc (gd_ff b34) (z2 (zc b34 (z2 (zc (gd_ff b35) (z1 (zc (gd_ff b35) (z1 (zc (gd_ff b35) (z2 (zc b35 (z2 (zc (gd_tf b36) (zc (gd_tf b36) (zc (gd_tf b36) (z1 (zc b36 (z2 (zc (gd_tf (rfl : true = true)) (zc (gd_tf (rfl : true = true)) (zc (gd_tf (rfl : true = true)) (z1 (zc (rfl : true = true) (z2 (zc (gd_tf (rfl : true = true)) (zc (gd_tf (rfl : true = true)) (zc (gd_tf (rfl : true = true)) (z8 (z2 (zc (gd_tf (rfl : true = true)) (z1 (zc (rfl : true = true) zt))))))))))))))))))))))))))))))))))))))))) zt) (fun s hs => Exists.intro true (And.intro h hs))
  replace h := ite_f b36 h
  rcases Bool.eq_false_or_eq_true (decide (x_26.a < 1)) with b37 | b37
  replace h := ite_t b37 h
  exact T_regJD 41 (hl 41 [(9, (zd (B false))), (14, (zd (B false))), (19, (zd (B false))), (21, zg), (22, zg), (23, zg), (24, (zd (B true))), (26, zg), (27, zg), (28, zg), (39, zg), (40, (zd (B true)))]) [] [1, 3, 4, 5, 92] [] [1, 5] _ _ (by kernel_rfl) (by kernel_rfl) (by kernel_rfl) (zc (z8 (zc (gd_ff b34) (z1 (zc (gd_ff b34) (z1 (zc (gd_ff b34) (z1 (zc (gd_ff b34) (z1 (zc (gd_ff b34) (z2 (zc b34 (z2 (zc (gd_ff b35) (z1 (zc (gd_ff b35) (z1 (zc (gd_ff b35) (z2 (zc b35 (z2 (zc (gd_ff b36) (z1 (zc (gd_ff b36) (z1 (zc (gd_ff b36) (z2 (zc b36 (z2 (zc (gd_tf b37) (zc (gd_tf b37) (zc (gd_tf b37) (z1 (zc b37 (z2 (zc (gd_tf (rfl : true = true)) (zc (gd_tf (rfl : true = true)) (zc (gd_tf (rfl : true = true)) (z8 (z2 (zc (gd_tf (rfl : true = true)) (z1 (zc (rfl : true = true) zt))))))))))))))))))))))))))))))))))))))))))) zt) (fun s hs => Exists.intro true (And.intro h hs))
  replace h := ite_f b37 h
  rcases Bool.eq_false_or_eq_true (decide (x_26.a > 1125899906842624)) with b38 | b38
  replace h := ite_t b38 h
  exact T_regJD 41 (hl 41 [(9, (zd (B false))), (14, (zd (B false))), (19, (zd (B false))), (24, (zd (B false))), (26, zg), (27, zg), (28, zg), (39, zg), (40, (zd (B true)))]) [] [1, 3, 4, 5, 92] [] [1, 5] _ _ (by kernel_rfl) (by kernel_rfl) (by kernel_rfl) (zc (z8 (zc (gd_ff b34) (z1 (zc (gd_ff b34) (z1 (zc (gd_ff b34) (z1 (zc (gd_ff b34) (z1 (zc (gd_ff b34) (z2 (zc b34 (z2 (zc (gd_ff b35) (z1 (zc (gd_ff b35) (z1 (zc (gd_ff b35) (z2 (zc b35 (z2 (zc (gd_ff b36) (z1 (zc (gd_ff b36) (z1 (zc (gd_ff b36) (z2 (zc b36 (z2 (zc (gd_ff b37) (z1 (zc (gd_ff b37) (z1 (zc (gd_ff b37) (z2 (zc b37 (z2 (zc (gd_tf b38) (zc (gd_tf b38) (zc (gd_tf b38) (z8 (z2 (zc (gd_tf b38) (z1 (zc b38 zt))))))))))))))))))))))))))))))))))))))))))))) zt) (fun s hs => Exists.intro true (And.intro h hs))
  replace h := ite_f b38 h
  rcases Bool.eq_false_or_eq_true (decide (((i_22 : Nat) : Int) > 0)) with b39 | b39
  replace h := ite_t b39 h
  obtain ⟨c40, h⟩ := ckI_inv h
  obtain ⟨x_41, e42, e43, e44, h⟩ := gt_inv encPrize h
  exact T_regJD 41 (hl 41 [(9, (zd (B false))), (14, (zd (B false))), (19, (zd (B false))), (24, (zd (B false))), (34, (zd (I (((i_22 : Nat) : Int) - 1)))), (35, (zd (encPrize x_41))), (39, (zd (B true))), (40, (zd (B false)))]) [] [1, 3, 4, 5, 92] [] [1, 5] _ _ (by kernel_rfl) (by kernel_rfl) (by kernel_rfl) (zc (z8 (zc (gd_ff b34) (z1 (zc (gd_ff b34) (z1 (zc (gd_ff b34) (z1 (zc (gd_ff b34) (z1 (zc (gd_ff b34) (z2 (zc b34 (z2 (zc (gd_ff b35) (z1 (zc (gd_ff b35) (z1 (zc (gd_ff b35) (z2 (zc b35 (z2 (zc (gd_ff b36) (z1 (zc (gd_ff b36) (z1 (zc (gd_ff b36) (z2 (zc b36 (z2 (zc (gd_ff b37) (z1 (zc (gd_ff b37) (z1 (zc (gd_ff b37) (z2 (zc b37 (z2 (zc (gd_ff b38) (z1 (zc (gd_ff b38) (z1 (zc (gd_ff b38) (z1 (zc (gd_tt b39) (z1 (zc (gd_tt b39) (z1 (zc (gd_tt b39) (z1 (zc (gd_tt b39) (z1 (zc (gd_tt b39) (z1 (zc (gd_tt b39) (zc c40 (zc (gd_tt b39) (zc e42 (zc (gd_tt b39) (z1 (zc (gd_tt b39) (z1 (zc (gd_tt b39) (z1 (zc (gd_ff b38) (zc b39 (z1 (zc b38 zt))))))))))))))))))))))))))))))))))))))))))))))))))))))))))))))))))) zt) (fun s hs => Exists.intro (decide (x_26.f ≤ x_41.t)) (And.intro h hs))
  replace h := ite_f b39 h
  exact T_regJD 41 [zn, zn, zn, zn, zn, zn, zn, zn, zn, (zd (B false)), zn, zn, zn, zn, (zd (B false)), zn, zn, zn, zn, (zd (B false)), zn, zn, zn, zn, (zd (B false)), zn, zn, zn, zn, zg, zg, zg, zg, zg, zg, zg, zg, zg, zg, (zd (B false)), (zd (B false))] [] [1, 3, 4, 5, 92] [] [1, 5] _ _ (by kernel_rfl) (by kernel_rfl) (by kernel_rfl) (zc (z8 (zc (gd_ff b34) (z1 (zc (gd_ff b34) (z1 (zc (gd_ff b34) (z1 (zc (gd_ff b34) (z1 (zc (gd_ff b34) (z2 (zc b34 (z2 (zc (gd_ff b35) (z1 (zc (gd_ff b35) (z1 (zc (gd_ff b35) (z2 (zc b35 (z2 (zc (gd_ff b36) (z1 (zc (gd_ff b36) (z1 (zc (gd_ff b36) (z2 (zc b36 (z2 (zc (gd_ff b37) (z1 (zc (gd_ff b37) (z1 (zc (gd_ff b37) (z2 (zc b37 (z2 (zc (gd_ff b38) (z1 (zc (gd_ff b38) (z1 (zc (gd_ff b38) (z1 (zc (gd_ft b39) (zc (gd_ft b39) (zc (gd_ft b39) (zc (gd_ft b39) (zc (gd_ft b39) (zc (gd_ft b39) (zc (gd_ft b39) (zc (gd_ft b39) (zc (gd_ft b39) (zc (gd_ft b39) (zc (gd_ff b38) (zc b39 (z1 (zc b38 zt))))))))))))))))))))))))))))))))))))))))))))))))))))))))) zt) (fun s hs => Exists.intro false (And.intro h hs))
  replace h := ite_f b25 h
  refine T_exit ?_
  replace h := up_inv h hy1
  exact Exists.intro sum_21 (And.intro h (arr [] [1, 3] [] [1] (by kernel_rfl)))
  rcases Bool.eq_false_or_eq_true (decide (s_1.c < 0)) with b45 | b45
  replace h := ite_t b45 h
  exact T_regJ [zn, zn, zn, zn, zg, zg, zg, (zd (B true)), zn, zg, zg, zg, zg, (zd (B true)), zn, zg, zg, zg, (zd (B true)), zn, zg, zg, zg, (zd (B true)), zn, zg, zg, zg, (zd (B true)), zn, zg, zg, zg, (zd (B true))] [] [1, 39] [] [1] _ _ (by kernel_rfl) (z8 (zc (gd_tf b45) (zc (gd_tf b45) (zc (gd_tf b45) (z1 (zc b45 (z2 (zc (gd_tf (rfl : true = true)) (zc (gd_tf (rfl : true = true)) (zc (gd_tf (rfl : true = true)) (zc (gd_tf (rfl : true = true)) (z1 (zc (rfl : true = true) (z2 (zc (gd_tf (rfl : true = true)) (zc (gd_tf (rfl : true = true)) (zc (gd_tf (rfl : true = true)) (z1 (zc (rfl : true = true) (z2 (zc (gd_tf (rfl : true = true)) (zc (gd_tf (rfl : true = true)) (zc (gd_tf (rfl : true = true)) (z1 (zc (rfl : true = true) (z2 (zc (gd_tf (rfl : true = true)) (zc (gd_tf (rfl : true = true)) (zc (gd_tf (rfl : true = true)) (z1 (zc (rfl : true = true) (z2 (zc (gd_tf (rfl : true = true)) (zc (gd_tf (rfl : true = true)) (zc (gd_tf (rfl : true = true)) (z1 (zc (rfl : true = true) zt))))))))))))))))))))))))))))))))))))) (fun s hs => Exists.intro true (And.intro h hs))
  replace h := ite_f b45 h
  rcases Bool.eq_false_or_eq_true (decide (s_1.c ≥ 8)) with b46 | b46
  replace h := ite_t b46 h
  exact T_regJ [zn, zn, zn, zn, zn, zn, zn, (zd (B false)), zn, zg, zg, zg, zg, (zd (B true)), zn, zg, zg, zg, (zd (B true)), zn, zg, zg, zg, (zd (B true)), zn, zg, zg, zg, (zd (B true)), zn, zg, zg, zg, (zd (B true))] [] [1, 39] [] [1] _ _ (by kernel_rfl) (z8 (zc (gd_ff b45) (z1 (zc (gd_ff b45) (z1 (zc (gd_ff b45) (z2 (zc b45 (z2 (zc (gd_tf b46) (zc (gd_tf b46) (zc (gd_tf b46) (zc (gd_tf b46) (z1 (zc b46 (z2 (zc (gd_tf (rfl : true = true)) (zc (gd_tf (rfl : true = true)) (zc (gd_tf (rfl : true = true)) (z1 (zc (rfl : true = true) (z2 (zc (gd_tf (rfl : true = true)) (zc (gd_tf (rfl : true = true)) (zc (gd_tf (rfl : true = true)) (z1 (zc (rfl : true = true) (z2 (zc (gd_tf (rfl : true = true)) (zc (gd_tf (rfl : true = true)) (zc (gd_tf (rfl : true = true)) (z1 (zc (rfl : true = true) (z2 (zc (gd_tf (rfl : true = true)) (zc (gd_tf (rfl : true = true)) (zc (gd_tf (rfl : true = true)) (z1 (zc (rfl : true = true) zt))))))))))))))))))))))))))))))))))))))) (fun s hs => Exists.intro true (And.intro h hs))
  replace h := ite_f b46 h
  rcases Bool.eq_false_or_eq_true (decide (((s_1.p.length : Nat) : Int) > 24)) with b47 | b47
  replace h := ite_t b47 h
  exact T_regJ [zn, zn, zn, zn, zn, zn, zn, (zd (B false)), zn, zn, zn, (zd (I ((s_1.p.length : Nat) : Int))), zn, (zd (B false)), zn, zg, zg, zg, (zd (B true)), zn, zg, zg, zg, (zd (B true)), zn, zg, zg, zg, (zd (B true)), zn, zg, zg, zg, (zd (B true))] [] [1, 39] [] [1] _ _ (by kernel_rfl) (z8 (zc (gd_ff b45) (z1 (zc (gd_ff b45) (z1 (zc (gd_ff b45) (z2 (zc b45 (z2 (zc (gd_ff b46) (z1 (zc (gd_ff b46) (z1 (zc (gd_ff b46) (zc (len_s encPrize s_1.p) (zc (gd_ff b46) (z2 (zc b46 (z2 (zc (gd_tf b47) (zc (gd_tf b47) (zc (gd_tf b47) (z1 (zc b47 (z2 (zc (gd_tf (rfl : true = true)) (zc (gd_tf (rfl : true = true)) (zc (gd_tf (rfl : true = true)) (z1 (zc (rfl : true = true) (z2 (zc (gd_tf (rfl : true = true)) (zc (gd_tf (rfl : true = true)) (zc (gd_tf (rfl : true = true)) (z1 (zc (rfl : true = true) (z2 (zc (gd_tf (rfl : true = true)) (zc (gd_tf (rfl : true = true)) (zc (gd_tf (rfl : true = true)) (z1 (zc (rfl : true = true) zt)))))))))))))))))))))))))))))))))))))))))) (fun s hs => Exists.intro true (And.intro h hs))
  replace h := ite_f b47 h
  rcases Bool.eq_false_or_eq_true (decide (s_1.u < 0)) with b48 | b48
  replace h := ite_t b48 h
  exact T_regJ [zn, zn, zn, zn, zn, zn, zn, (zd (B false)), zn, zn, zn, (zd (I ((s_1.p.length : Nat) : Int))), zn, (zd (B false)), zn, zn, zn, zn, (zd (B false)), zn, zg, zg, zg, (zd (B true)), zn, zg, zg, zg, (zd (B true)), zn, zg, zg, zg, (zd (B true))] [] [1, 39] [] [1] _ _ (by kernel_rfl) (z8 (zc (gd_ff b45) (z1 (zc (gd_ff b45) (z1 (zc (gd_ff b45) (z2 (zc b45 (z2 (zc (gd_ff b46) (z1 (zc (gd_ff b46) (z1 (zc (gd_ff b46) (zc (len_s encPrize s_1.p) (zc (gd_ff b46) (z2 (zc b46 (z2 (zc (gd_ff b47) (z1 (zc (gd_ff b47) (z1 (zc (gd_ff b47) (z2 (zc b47 (z2 (zc (gd_tf b48) (zc (gd_tf b48) (zc (gd_tf b48) (z1 (zc b48 (z2 (zc (gd_tf (rfl : true = true)) (zc (gd_tf (rfl : true = true)) (zc (gd_tf (rfl : true = true)) (z1 (zc (rfl : true = true) (z2 (zc (gd_tf (rfl : true = true)) (zc (gd_tf (rfl : true = true)) (zc (gd_tf (rfl : true = true)) (z1 (zc (rfl : true = true) zt)))))))))))))))))))))))))))))))))))))))))))) (fun s hs => Exists.intro true (And.intro h hs))
  replace h := ite_f b48 h
  rcases Bool.eq_false_or_eq_true (decide (s_1.u > 24)) with b49 | b49
  replace h := ite_t b49 h
  exact T_regJ [zn, zn, zn, zn, zn, zn, zn, (zd (B false)), zn, zn, zn, (zd (I ((s_1.p.length : Nat) : Int))), zn, (zd (B false)), zn, zn, zn, zn, (zd (B false)), zn, zn, zn, zn, (zd (B false)), zn, zg, zg, zg, (zd (B true)), zn, zg, zg, zg, (zd (B true))] [] [1, 39] [] [1] _ _ (by kernel_rfl) (z8 (zc (gd_ff b45) (z1 (zc (gd_ff b45) (z1 (zc (gd_ff b45) (z2 (zc b45 (z2 (zc (gd_ff b46) (z1 (zc (gd_ff b46) (z1 (zc (gd_ff b46) (zc (len_s encPrize s_1.p) (zc (gd_ff b46) (z2 (zc b46 (z2 (zc (gd_ff b47) (z1 (zc (gd_ff b47) (z1 (zc (gd_ff b47) (z2 (zc b47 (z2 (zc (gd_ff b48) (z1 (zc (gd_ff b48) (z1 (zc (gd_ff b48) (z2 (zc b48 (z2 (zc (gd_tf b49) (zc (gd_tf b49) (zc (gd_tf b49) (z1 (zc b49 (z2 (zc (gd_tf (rfl : true = true)) (zc (gd_tf (rfl : true = true)) (zc (gd_tf (rfl : true = true)) (z1 (zc (rfl : true = true) zt)))))))))))))))))))))))))))))))))))))))))))))) (fun s hs => Exists.intro true (And.intro h hs))
  replace h := ite_f b49 h
  rcases Bool.eq_false_or_eq_true (decide (s_1.d < 0)) with b50 | b50
  replace h := ite_t b50 h
  exact T_regJ (hl 34 [(7, (zd (B false))), (11, (zd (I ((s_1.p.length : Nat) : Int)))), (13, (zd (B false))), (18, (zd (B false))), (23, (zd (B false))), (28, (zd (B false))), (30, zg), (31, zg), (32, zg), (33, (zd (B true)))]) [] [1, 39] [] [1] _ _ (by kernel_rfl) (z8 (zc (gd_ff b45) (z1 (zc (gd_ff b45) (z1 (zc (gd_ff b45) (z2 (zc b45 (z2 (zc (gd_ff b46) (z1 (zc (gd_ff b46) (z1 (zc (gd_ff b46) (zc (len_s encPrize s_1.p) (zc (gd_ff b46) (z2 (zc b46 (z2 (zc (gd_ff b47) (z1 (zc (gd_ff b47) (z1 (zc (gd_ff b47) (z2 (zc b47 (z2 (zc (gd_ff b48) (z1 (zc (gd_ff b48) (z1 (zc (gd_ff b48) (z2 (zc b48 (z2 (zc (gd_ff b49) (z1 (zc (gd_ff b49) (z1 (zc (gd_ff b49) (z2 (zc b49 (z2 (zc (gd_tf b50) (zc (gd_tf b50) (zc (gd_tf b50) (z1 (zc b50 zt)))))))))))))))))))))))))))))))))))))))))))))))) (fun s hs => Exists.intro true (And.intro h hs))
  replace h := ite_f b50 h
  exact T_regJ (hl 34 [(7, (zd (B false))), (11, (zd (I ((s_1.p.length : Nat) : Int)))), (13, (zd (B false))), (18, (zd (B false))), (23, (zd (B false))), (28, (zd (B false))), (33, (zd (B false)))]) [] [1, 39] [] [1] _ _ (by kernel_rfl) (z8 (zc (gd_ff b45) (z1 (zc (gd_ff b45) (z1 (zc (gd_ff b45) (z2 (zc b45 (z2 (zc (gd_ff b46) (z1 (zc (gd_ff b46) (z1 (zc (gd_ff b46) (zc (len_s encPrize s_1.p) (zc (gd_ff b46) (z2 (zc b46 (z2 (zc (gd_ff b47) (z1 (zc (gd_ff b47) (z1 (zc (gd_ff b47) (z2 (zc b47 (z2 (zc (gd_ff b48) (z1 (zc (gd_ff b48) (z1 (zc (gd_ff b48) (z2 (zc b48 (z2 (zc (gd_ff b49) (z1 (zc (gd_ff b49) (z1 (zc (gd_ff b49) (z2 (zc b49 (z2 (zc (gd_ff b50) (z1 (zc (gd_ff b50) (z1 (zc (gd_ff b50) (z2 (zc b50 zt)))))))))))))))))))))))))))))))))))))))))))))))))) (fun s hs => Exists.intro (decide (s_1.d > 24)) (And.intro h hs))

theorem g_ref42_checked_ret {t_1 : Tab} {s_2 : Sch} {r : Int} (h : g_ref42_checked t_1 s_2 = some r) : Ret Tryz.prog 37 [(encTab t_1), (encSch s_2)] (I r) := by
  refine Ret.of_T Tryz.func37 (by kernel_rfl) rfl ?_
  refine T_turn [] [0, 1] [] (mk 22 [(0, (.agg (qTab t_1))), (1, (.agg (qSch s_2)))] []) (by kernel_rfl) ?_
  refine T_reg [] [2, 3] [] (mk 22 [(2, (rf 2 0)), (3, (rf 3 0))] [(3, (.var (qSch s_2))), (2, (.var (qTab t_1)))]) _ (by kernel_rfl) (z6 zt) ?_
  obtain ⟨r_3, e4, h⟩ := bd_inv h
  refine T_reg [zn, (zd (I r_3))] [2, 3, 5] [] (mk 22 [(2, (rf 2 0)), (3, (rf 3 0)), (5, (di r_3))] [(3, (.var (qSch s_2))), (2, (.var (qTab t_1)))]) _ (by kernel_rfl) (z3 (zc (g_ref20_Check_ret e4) (z2 zt))) ?_
  refine T_seqJ (α := Int) (fun (e_5 : Int) => (mk 22 [(2, (rf 2 0)), (3, (rf 3 0)), (5, (di e_5))] [(2, (.var (qTab t_1))), (3, (.var (qSch s_2)))])) (fun (e_5 : Int) => g_ref42_checked_j1 t_1 s_2 e_5 = some r) (fun e_5 h => ?_) ?_
  refine T_seqJ (α := Int) (fun (e_6 : Int) => (mk 22 [(5, (di e_6))] [])) (fun (e_6 : Int) => g_ref42_checked_j2 e_6 = some r) (fun e_6 h => ?_) ?_
  refine T_reg [] [4] [] (mk 22 [(4, (di e_6))] []) _ (by kernel_rfl) (z4 zt) ?_
  refine T_ret ?_
  obtain rfl := some_inv h
  exact ret_here [(di e_6)] (by kernel_rfl) (.inl rfl)
  refine T_seqJ (α := Bool) (fun (v_7 : Bool) => (mk 22 [(5, (di e_5)), (20, (db (v_7)))] [])) (fun (v_7 : Bool) => g_ref42_checked_j3 e_5 v_7 = some r) (fun v_7 h => ?_) ?_
  refine T_cond (v_7) (by kernel_rfl) (fun b8 => ?_) (fun b8 => ?_)
  replace h := ite_t b8 h
  exact T_regJ [] [] [5] [] [] _ _ (by kernel_rfl) (z2 zt) (fun s hs => Exists.intro 420 (And.intro h hs))
  replace h := ite_f b8 h
  refine T_skip ?_
  exact Exists.intro e_5 (And.intro h (arr [] [5] [] [] (by kernel_rfl)))
  rcases Bool.eq_false_or_eq_true (e_5 == 0) with b9 | b9
  replace h := ite_t b9 h
  exact T_regJ (hl 9 [(8, (zd (B true)))]) [] [5, 20] [2, 3] [] _ _ (by kernel_rfl) (z6 (zc (gd_tt b9) (z1 (zc (gd_tt b9) (z1 (zc (gd_tt b9) (z1 (zc (gd_tt b9) (z1 (zc (gd_tt b9) (z2 (zc b9 zt)))))))))))) (fun s hs => Exists.intro (t_1.c != s_2.c) (And.intro h hs))
  replace h := ite_f b9 h
  exact T_regJ [zn, zn, zn, zg, zg, zg, zg, zg, (zd (B false))] [] [5, 20] [2, 3] [] _ _ (by kernel_rfl) (z6 (zc (gd_ft b9) (zc (gd_ft b9) (zc (gd_ft b9) (zc (gd_ft b9) (zc (gd_ft b9) (z1 (zc b9 zt)))))))) (fun s hs => Exists.intro false (And.intro h hs))
  refine T_reg [] [2, 3, 5, 9] [] (mk 22 [(2, (rf 2 0)), (3, (rf 3 0)), (5, (di r_3)), (9, (db (r_3 == 0)))] [(3, (.var (qSch s_2))), (2, (.var (qTab t_1)))]) _ (by kernel_rfl) (z4 zt) ?_
  refine T_cond (r_3 == 0) (by kernel_rfl) (fun b10 => ?_) (fun b10 => ?_)
  replace h := ite_t b10 h
  obtain ⟨r_11, e12, h⟩ := bd_inv h
  exact T_regJ [zn, (zd (I r_11))] [] [2, 3, 5] [] [2, 3] _ _ (by kernel_rfl) (z3 (zc (g_ref42_Check_ret e12) (z2 zt))) (fun s hs => Exists.intro r_11 (And.intro h hs))
  replace h := ite_f b10 h
  refine T_skip ?_
  exact Exists.intro r_3 (And.intro h (arr [] [2, 3, 5] [] [2, 3] (by kernel_rfl)))

theorem g_ref42_ones_ret {n_1 : Int} {r : List Int} (h : g_ref42_ones n_1 = some r) : Ret Tryz.prog 39 [(I n_1)] (.sl 1 (r.map elI)) := by
  refine Ret.of_T Tryz.func39 (by kernel_rfl) rfl ?_
  refine T_turn [] [0] [] (mk 15 [(0, (di n_1))] []) (by kernel_rfl) ?_
  refine T_reg [] [0] [] (mk 15 [(0, (di n_1))] []) _ (by kernel_rfl) (z2 zt) ?_
  refine T_reg [] [0, 3] [] (mk 15 [(0, (di n_1)), (3, (ow 5))] [(5, (.row 3 1 (([] : List Int).map elI)))]) _ (by kernel_rfl) (z1 (zc (show dfill (fun i => some (i * 1, 1)) (List.replicate (0 * 1) .junk) [] = some ((flat (([] : List Int).map elI)).map .dat) from rfl) (z2 zt))) ?_
  refine T_seqJ (α := List Int) (fun (l_2 : List Int) => (mk 15 [(3, (ow 5))] [(5, (.row 3 1 (l_2.map elI)))])) (fun (l_2 : List Int) => g_ref42_ones_j1 l_2 = some r) (fun l_2 h => ?_) ?_
  refine T_reg [] [2] [] (mk 15 [(2, (ow 5))] [(5, (.row 3 1 (l_2.map elI)))]) _ (by kernel_rfl) (z4 zt) ?_
  refine T_ret ?_
  obtain rfl := some_inv h
  exact ret_here [(ow 5)] (by kernel_rfl) rfl
  refine T_reg [] [0, 3, 4] [] (mk 15 [(0, (di n_1)), (3, (ow 5)), (4, (di 0))] [(5, (.row 3 1 (([] : List Int).map elI)))]) _ (by kernel_rfl) (z2 zt) ?_
  refine T_block ?_
  refine T_arr [] [0, 3, 4] [] [5] _ (by kernel_rfl) (T_loopO (σ := Nat × (List Int)) (fun ((i_3, l_4) : Nat × (List Int)) => (mk 15 [(0, (di n_1)), (3, (ow 5)), (4, (di ((i_3 : Nat) : Int)))] [(5, (.row 3 1 (l_4.map elI)))])) (g_ref42_ones_l2 n_1) (0, ([] : List Int)) h (fun v y1 hy1 h => ?_))
  obtain ⟨i_3, l_4⟩ := v
  refine T_seq ?_
  refine T_reg [] [0, 3, 4, 8] [] (mk 15 [(0, (di n_1)), (3, (ow 5)), (4, (di ((i_3 : Nat) : Int))), (8, (db (decide (((i_3 : Nat) : Int) < n_1))))] [(5, (.row 3 1 (l_4.map elI)))]) _ (by kernel_rfl) (z6 zt) ?_
  refine T_cond (decide (((i_3 : Nat) : Int) < n_1)) (by kernel_rfl) (fun b7 => ?_) (fun b7 => ?_)
  replace h := ite_t b7 h
  refine T_skip ?_
  refine T_seq ?_
  refine T_block ?_
  obtain ⟨c8, h⟩ := ck_inv h
  refine T_regE [zn, zn, (zd (.sl 1 ((l_4 ++ [(1 : Int)]).map elI)))] (mk 15 [(0, (di n_1)), (3, (ow 13)), (4, (di ((i_3 : Nat) : Int))), (8, (db (decide (((i_3 : Nat) : Int) < n_1)))), (12, (ow 12)), (13, (ow 13))] [(13, (.row 3 1 ((l_4 ++ [(1 : Int)]).map elI))), (12, (.row 3 1 ([(1 : Int)].map elI)))]) _ (by kernel_rfl) (z3 (zc (show dfill (fun i => some (i * 1, 1)) (List.replicate (1 * 1) .junk) [(0, [(.dat (I 1))])] = some ((flat ([(1 : Int)].map elI)).map .dat) from rfl) (z1 (zc (app_s elI elI_one l_4 ([(1 : Int)]) c8) (z2 zt))))) ?_
  obtain ⟨c9, h⟩ := ckI_inv h
  exact T_regJ [zn, (zd (I ((i_3 + 1 : Nat) : Int)))] [.ren 13 5] [0, 3, 4] [12] [5] _ _ (by kernel_rfl) (z3 (zc c9 (z2 zt))) (fun s hs => Exists.intro (i_3 + 1, (l_4 ++ [(1 : Int)])) (And.intro h hs))
  replace h := ite_f b7 h
  refine T_exit ?_
  replace h := up_inv h hy1
  exact Exists.intro l_4 (And.intro h (arr [] [3] [] [5] (by kernel_rfl)))

theorem g_ref42_Part_ret {s_1 : Sch} {rank_2 : Int} {r : Int} (h : g_ref42_Part s_1 rank_2 = some r) : Ret Tryz.prog 24 [(encSch s_1), (I rank_2)] (I r) := by
  refine Ret.of_T Tryz.func24 (by kernel_rfl) rfl ?_
  refine T_turn [] [0, 1] [] (mk 51 [(0, (.agg (qSch s_1))), (1, (di rank_2))] []) (by kernel_rfl) ?_
  refine T_reg [] [1, 2] [] (mk 51 [(1, (di rank_2)), (2, (rf 2 0))] [(2, (.var (qSch s_1)))]) _ (by kernel_rfl) (z4 zt) ?_
  refine T_seqJ (α := Unit) (fun (_ : Unit) => (mk 51 [] [])) (fun (_ : Unit) => g_ref42_Part_j1 = some r) (fun v h => ?_) ?_
  refine T_reg [] [4] [] (mk 51 [(4, (di 0))] []) _ (by kernel_rfl) (z2 zt) ?_
  refine T_ret ?_
  obtain rfl := some_inv h
  exact ret_here [(di 0)] (by kernel_rfl) (.inl rfl)
  refine T_reg [] [1, 2, 5] [] (mk 51 [(1, (di rank_2)), (2, (rf 2 0)), (5, (di 0))] [(2, (.var (qSch s_1)))]) _ (by kernel_rfl) (z2 zt) ?_
  refine T_block ?_
  refine T_arr [] [1, 2, 5] [] [2] _ (by kernel_rfl) (T_loopO (σ := Nat) (fun (i_3 : Nat) => (mk 51 [(1, (di rank_2)), (2, (rf 2 0)), (5, (di ((i_3 : Nat) : Int)))] [(2, (.var (qSch s_1)))])) (g_ref42_Part_l2 s_1 rank_2) 0 h (fun i_3 y1 hy1 h => ?_))
  refine T_seq ?_
  refine T_reg [zn, zn, zn, (zd (I ((s_1.p.length : Nat) : Int)))] [1, 2, 5, 13] [] (mk 51 [(1, (di rank_2)), (2, (rf 2 0)), (5, (di ((i_3 : Nat) : Int))), (13, (db (decide (((i_3 : Nat) : Int) < ((s_1.p.length : Nat) : Int)))))] [(2, (.var (qSch s_1)))]) _ (by kernel_rfl) (z7 (zc (len_s encPrize s_1.p) (z2 zt))) ?_
  refine T_cond (decide (((i_3 : Nat) : Int) < ((s_1.p.length : Nat) : Int))) (by kernel_rfl) (fun b5 => ?_) (fun b5 => ?_)
  replace h := ite_t b5 h
  refine T_skip ?_
  refine T_seq ?_
  refine T_block ?_
  obtain ⟨x_6, e7, e8, e9, h⟩ := gn_inv encPrize h
  refine T_reg [zn, zn, zn, (zd (encPrize x_6))] [1, 2, 5, 6] [] (mk 51 [(1, (di rank_2)), (2, (rf 2 0)), (5, (di ((i_3 : Nat) : Int))), (6, (rf 6 0))] [(6, (.var (qPrize x_6))), (2, (.var (qSch s_1)))]) _ (by kernel_rfl) (z7 (zc e7 (z6 zt))) ?_
  refine T_seqJ (α := Bool) (fun (v_10 : Bool) => (mk 51 [(1, (di rank_2)), (2, (rf 2 0)), (5, (di ((i_3 : Nat) : Int))), (6, (rf 6 0)), (30, (db (v_10)))] [(2, (.var (qSch s_1))), (6, (.var (qPrize x_6)))])) (fun (v_10 : Bool) => g_ref42_Part_j3 x_6 rank_2 i_3 s_1 v_10 = some y1) (fun v_10 h => ?_) ?_
  refine T_cond (v_10) (by kernel_rfl) (fun b11 => ?_) (fun b11 => ?_)
  replace h := ite_t b11 h
  obtain ⟨c12, h⟩ := ckI_inv h
  obtain ⟨c13, h⟩ := ckI_inv h
  obtain ⟨r_14, e15, h⟩ := bd_inv h
  obtain ⟨r_16, e17, h⟩ := bd_inv h
  refine T_regD 15 [zn, zn, zn, zn, zn, zn, (zd (I (x_6.t - x_6.f))), (zd (I ((x_6.t - x_6.f) + 1))), (zd (.sl 1 (r_14.map elI))), (zd (.tup [(.sl 1 (r_16.1.map elI)), (I r_16.2)]))] [1, 6, 7] [2] (mk 51 [(1, (di rank_2)), (6, (rf 6 0)), (7, (dt (.sl 1 (r_16.1.map elI))))] [(6, (.var (qPrize x_6)))]) _ (by kernel_rfl) (by kernel_rfl) (by kernel_rfl) (zc (z8 (z5 (zc c12 (z1 (zc c13 (z1 (zc (g_ref42_ones_ret e15) (z1 (zc (g_ref05_Split_ret e17) (z8 (z2 zt))))))))))) zt) ?_
  obtain ⟨c18, h⟩ := ckI_inv h
  obtain ⟨x_19, e20, e21, e22, h⟩ := gt_inv elI h
  refine T_reg [zn, zn, zn, zn, (zd (I (rank_2 - x_6.f))), (zd (I x_19))] [4] [6] (mk 51 [(4, (di x_19))] []) _ (by kernel_rfl) (z8 (z1 (zc c18 (z1 (zc e20 (z4 zt)))))) ?_
  refine T_ret ?_
  replace h := up_inv h hy1
  obtain rfl := some_inv h
  exact ret_here [(di x_19)] (by kernel_rfl) (.inl rfl)
  replace h := ite_f b11 h
  refine T_skip ?_
  obtain ⟨c23, h⟩ := ckI_inv h
  exact T_regJ [zn, (zd (I ((i_3 + 1 : Nat) : Int)))] [] [1, 2, 5] [6] [2] _ _ (by kernel_rfl) (z3 (zc c23 (z2 zt))) (fun s hs => Exists.intro (i_3 + 1) (And.intro h hs))
  rcases Bool.eq_false_or_eq_true (decide (x_6.f ≤ rank_2)) with b24 | b24
  replace h := ite_t b24 h
  exact T_regJ (hl 10 [(9, (zd (B true)))]) [] [1, 2, 5, 6, 30] [] [2, 6] _ _ (by kernel_rfl) (z8 (z2 (zc (gd_tt b24) (z1 (zc (gd_tt b24) (z1 (zc (gd_tt b24) (z1 (zc (gd_tt b24) (z2 (zc b24 zt))))))))))) (fun s hs => Exists.intro (decide (rank_2 ≤ x_6.t)) (And.intro h hs))
  replace h := ite_f b24 h
  exact T_regJ [zn, zn, zn, zn, zn, zg, zg, zg, zg, (zd (B false))] [] [1, 2, 5, 6, 30] [] [2, 6] _ _ (by kernel_rfl) (z8 (z2 (zc (gd_ft b24) (zc (gd_ft b24) (zc (gd_ft b24) (zc (gd_ft b24) (z1 (zc b24 zt)))))))) (fun s hs => Exists.intro false (And.intro h hs))
  replace h := ite_f b5 h
  refine T_exit ?_
  replace h := up_inv h hy1
  exact Exists.intro () (And.intro h (arr [] [] [2] [] (by kernel_rfl)))

theorem g_ref42_insert_ret {l_1 : List Pay} {p_2 : Pay} {r : List Pay} (h : g_ref42_insert l_1 p_2 = some r) : Ret Tryz.prog 40 [(.sl 2 (l_1.map encPay)), (encPay p_2)] (.sl 2 (r.map encPay)) := by
  refine Ret.of_T Tryz.func40 (by kernel_rfl) rfl ?_
  refine T_turn [] [0, 1] [] (mk 35 [(0, (dt (.sl 2 (l_1.map encPay)))), (1, (.agg (qPay p_2)))] []) (by kernel_rfl) ?_
  refine T_reg [] [0, 3] [] (mk 35 [(0, (dt (.sl 2 (l_1.map encPay)))), (3, (rf 3 0))] [(3, (.var (qPay p_2)))]) _ (by kernel_rfl) (z4 zt) ?_
  refine T_reg [] [0, 3, 5] [] (mk 35 [(0, (dt (.sl 2 (l_1.map encPay)))), (3, (rf 3 0)), (5, (di 0))] [(3, (.var (qPay p_2)))]) _ (by kernel_rfl) (z2 zt) ?_
  refine T_seqJ (α := Nat) (fun (k_3 : Nat) => (mk 35 [(0, (dt (.sl 2 (l_1.map encPay)))), (3, (rf 3 0)), (5, (di ((k_3 : Nat) : Int)))] [(3, (.var (qPay p_2)))])) (fun (k_3 : Nat) => g_ref42_insert_j1 l_1 p_2 k_3 = some r) (fun k_3 h => ?_) ?_
  obtain ⟨s_4, e5, h⟩ := sb_inv 2 encPay h
  refine T_arr [] [0, 3, 5] [] [3] (mk 35 [(0, (dt (.sl 2 (l_1.map encPay)))), (3, (rf 3 0)), (5, (di ((k_3 : Nat) : Int)))] [(3, (.var (qPay p_2)))]) (by kernel_rfl) ?_
  obtain ⟨c6, h⟩ := ck_inv h
  refine T_anyUS [{}, {}, {}, {}, { h := zd (.sl 2 (s_4.map encPay)) }, { h := zd (.sl 2 (([p_2] ++ s_4).map encPay)) }, {}] _ (mk 35 [(0, (dt (.sl 2 (l_1.map encPay)))), (3, (rf 3 0)), (5, (di ((k_3 : Nat) : Int)))] [(3, (.var (qPay p_2)))]) [(0, 23, (.agg (qPay p_2))), (1, 24, (ow 24)), (2, 25, (dt (.sl 2 (l_1.map encPay)))), (3, 26, (di ((k_3 : Nat) : Int))), (4, 27, (dt (.sl 2 (s_4.map encPay)))), (5, 24, J), (5, 28, (ow 28)), (6, 6, (ow 28))] [(1, 24, some (.row 56 2 ([p_2].map encPay))), (5, 24, none), (5, 28, some (.row 56 2 (([p_2] ++ s_4).map encPay)))] [3, 24, 28] [0, 1, 3, 4, 5, 7, 8, 9, 11, 12, 13, 15, 28, 29, 31, 63, 127] (by kernel_rfl) (by decide) (by kernel_rfl) (by kernel_rfl) (by kernel_rfl) (zs (zc zt zt) (zs (zc zt (show dfill (fun i => some (i * 2, 2)) (List.replicate (1 * 2) .junk) [(0, [(.dat (I p_2.c)), (.dat (I p_2.a))])] = some ((flat ([p_2].map encPay)).map .dat) from rfl)) (zs (zc zt zt) (zs (zc zt zt) (zs (zc zt e5) (zs (zc zt (app_s encPay encPay_one ([p_2]) s_4 c6)) (zs (zc zt zt) zS))))))) ?_
  refine T_turn [] [0, 5, 6] [3] (mk 35 [(0, (dt (.sl 2 (l_1.map encPay)))), (5, (di ((k_3 : Nat) : Int))), (6, (ow 28))] [(28, (.row 56 2 (([p_2] ++ s_4).map encPay)))]) (by kernel_rfl) ?_
  refine T_seq (T_parts ?_)
  refine TL_part 3 [] (mk 35 [(0, (dt (.sl 2 (l_1.map encPay)))), (5, (di ((k_3 : Nat) : Int))), (6, (ow 28)), (29, (dt (.sl 2 (l_1.map encPay)))), (30, (di ((k_3 : Nat) : Int))), (31, (di ((k_3 : Nat) : Int)))] [(28, (.row 56 2 (([p_2] ++ s_4).map encPay)))]) _ (by kernel_rfl) (z6 zt) rfl ?_
  obtain ⟨c7, h⟩ := ck_inv h
  obtain ⟨c8, h⟩ := ck_inv h
  refine TL_cutApp 34 56 2 16 32 33 34 34 k_3 28 rfl rfl rfl rfl rfl rfl rfl rfl rfl (by decide) (by kernel_rfl) (by kernel_rfl) (by kernel_rfl) (by kernel_rfl) (by decide) (by decide) (l_1.map encPay) (([p_2] ++ s_4).map encPay) (by kernel_rfl) (by kernel_rfl) (by kernel_rfl) (by rw [List.length_map]; exact c7) (by kernel_rfl) (by kernel_rfl) (by simp) (encPay_one _) (by rw [List.length_map]; exact c8) (by decide) ((l_1.take k_3 ++ ([p_2] ++ s_4)).map encPay) (by simp only [List.map_append, List.map_take]) ?_
  refine TL_turn [] [6, 34] [] (mk 35 [(6, (ow 28)), (34, (ow 34))] [(34, (.row 56 2 ((l_1.take k_3 ++ ([p_2] ++ s_4)).map encPay))), (28, (.row 56 2 (([p_2] ++ s_4).map encPay)))]) (by kernel_rfl) ?_
  refine TL_part 1 [] (mk 35 [(4, (ow 34)), (6, (ow 28)), (34, (ow 34))] [(34, (.row 56 2 ((l_1.take k_3 ++ ([p_2] ++ s_4)).map encPay))), (28, (.row 56 2 (([p_2] ++ s_4).map encPay)))]) _ (by kernel_rfl) (z2 zt) rfl ?_
  refine TL_nilQ ?_
  refine T_turn [] [4] [28] (mk 35 [(4, (ow 34))] [(34, (.row 56 2 ((l_1.take k_3 ++ ([p_2] ++ s_4)).map encPay)))]) (by kernel_rfl) ?_
  refine T_ret ?_
  obtain rfl := some_inv h
  exact ret_here [(ow 34)] (by kernel_rfl) rfl
  refine T_block ?_
  refine T_arr [] [0, 3, 5] [] [3] _ (by kernel_rfl) (T_loopO (σ := Nat) (fun (k_9 : Nat) => (mk 35 [(0, (dt (.sl 2 (l_1.map encPay)))), (3, (rf 3 0)), (5, (di ((k_9 : Nat) : Int)))] [(3, (.var (qPay p_2)))])) (g_ref42_insert_l2 l_1 p_2) 0 h (fun k_9 y1 hy1 h => ?_))
  refine T_seq ?_
  refine T_seqJ (α := Bool) (fun (v_11 : Bool) => (mk 35 [(0, (dt (.sl 2 (l_1.map encPay)))), (3, (rf 3 0)), (5, (di ((k_9 : Nat) : Int))), (20, (db (v_11)))] [(3, (.var (qPay p_2)))])) (fun (v_11 : Bool) => g_ref42_insert_j3 k_9 l_1 p_2 v_11 = some y1) (fun v_11 h => ?_) ?_
  refine T_cond (v_11) (by kernel_rfl) (fun b12 => ?_) (fun b12 => ?_)
  replace h := ite_t b12 h
  refine T_skip ?_
  refine T_block ?_
  obtain ⟨c13, h⟩ := ckI_inv h
  exact T_regJ [zn, (zd (I ((k_9 + 1 : Nat) : Int)))] [] [0, 3, 5] [] [3] _ _ (by kernel_rfl) (z3 (zc c13 (z2 zt))) (fun s hs => Exists.intro (k_9 + 1) (And.intro h hs))
  replace h := ite_f b12 h
  refine T_exit ?_
  replace h := up_inv h hy1
  exact Exists.intro k_9 (And.intro h (arr [] [0, 3, 5] [] [3] (by kernel_rfl)))
  rcases Bool.eq_false_or_eq_true (decide (((k_9 : Nat) : Int) < ((l_1.length : Nat) : Int))) with b14 | b14
  replace h := ite_t b14 h
  obtain ⟨x_15, e16, e17, e18, h⟩ := gn_inv encPay h
  exact T_regJD 14 (hl 14 [(2, (zd (I ((l_1.length : Nat) : Int)))), (7, (zd (encPay x_15))), (13, (zd (B true)))]) [] [0, 3, 5, 20] [] [3] _ _ (by kernel_rfl) (by kernel_rfl) (by kernel_rfl) (zc (z5 (zc (len_s encPay l_1) (z4 (zc (gd_tt b14) (z1 (zc (gd_tt b14) (z1 (zc (gd_tt b14) (zc e16 (zc (gd_tt b14) (z1 (zc (gd_tt b14) (z1 (zc (gd_tt b14) (z1 (zc (gd_tt b14) (z1 (zc (gd_tt b14) (z2 (zc b14 zt)))))))))))))))))))) zt) (fun s hs => Exists.intro (decide (x_15.c < p_2.c)) (And.intro h hs))
  replace h := ite_f b14 h
  exact T_regJD 14 [zn, zn, (zd (I ((l_1.length : Nat) : Int))), zn, zn, zg, zg, zg, zg, zg, zg, zg, zg, (zd (B false))] [] [0, 3, 5, 20] [] [3] _ _ (by kernel_rfl) (by kernel_rfl) (by kernel_rfl) (zc (z5 (zc (len_s encPay l_1) (z4 (zc (gd_ft b14) (zc (gd_ft b14) (zc (gd_ft b14) (zc (gd_ft b14) (zc (gd_ft b14) (zc (gd_ft b14) (zc (gd_ft b14) (zc (gd_ft b14) (z1 (zc b14 zt))))))))))))) zt) (fun s hs => Exists.intro false (And.intro h hs))

end Go.Proofs.YtoiiblkncbnlaaaGreat

/-
  Go functions as partial functions, printed by auto.py: what each returns when its partial function has a value. Conditions: those of each theorem.
-/
namespace Go.Proofs.YtoiiblkncbnlaaaGreat
open Go.DL
set_option maxRecDepth 100000
set_option maxHeartbeats 4000000
set_option linter.unusedVariables false
set_option linter.unusedSimpArgs false
theorem g_ref42_Prizes_ret {t_1 : Tab} {s_2 : Sch} {r : (List Pay) × Int} (h : g_ref42_Prizes t_1 s_2 = some r) : Ret Tryz.prog 13 [(encTab t_1), (encSch s_2)] (.tup [(.sl 2 (r.1.map encPay)), (I r.2)]) := by
  refine Ret.of_T Tryz.func13 (by kernel_rfl) rfl ?_
  refine T_turn [] [0, 1] [] (mk 97 [(0, (.agg (qTab t_1))), (1, (.agg (qSch s_2)))] []) (by kernel_rfl) ?_
  refine T_reg [] [2, 3] [] (mk 97 [(2, (rf 2 0)), (3, (rf 3 0))] [(3, (.var (qSch s_2))), (2, (.var (qTab t_1)))]) _ (by kernel_rfl) (z8 zt) ?_
  obtain ⟨r_3, e4, h⟩ := bd_inv h
  refine T_reg [zn, zn, (zd (I r_3))] [2, 3, 6] [] (mk 97 [(2, (rf 2 0)), (3, (rf 3 0)), (6, (di r_3))] [(3, (.var (qSch s_2))), (2, (.var (qTab t_1)))]) _ (by kernel_rfl) (z5 (zc (g_ref42_checked_ret e4) (z2 zt))) ?_
  refine T_seq ?_
  refine T_reg [] [2, 3, 6, 18] [] (mk 97 [(2, (rf 2 0)), (3, (rf 3 0)), (6, (di r_3)), (18, (db (r_3 != 0)))] [(3, (.var (qSch s_2))), (2, (.var (qTab t_1)))]) _ (by kernel_rfl) (z4 zt) ?_
  refine T_cond (r_3 != 0) (by kernel_rfl) (fun b5 => ?_) (fun b5 => ?_)
  replace h := ite_t b5 h
  refine T_reg [] [4, 5] [3, 2] (mk 97 [(4, (dt nilS)), (5, (di r_3))] []) _ (by kernel_rfl) (z6 zt) ?_
  refine T_ret ?_
  obtain rfl := some_inv h
  exact ret_here [(dt nilS), (di r_3)] (by kernel_rfl) ⟨(.inr ⟨rfl, 2, rfl⟩), (.inl rfl), trivial⟩
  replace h := ite_f b5 h
  refine T_skip ?_
  refine T_reg [] [2, 3, 7] [] (mk 97 [(2, (rf 2 0)), (3, (rf 3 0)), (7, (ow 20))] [(20, (.row 56 2 (([] : List Pay).map encPay))), (3, (.var (qSch s_2))), (2, (.var (qTab t_1)))]) _ (by kernel_rfl) (z1 (zc (show dfill (fun i => some (i * 2, 2)) (List.replicate (0 * 2) .junk) [] = some ((flat (([] : List Pay).map encPay)).map .dat) from rfl) (z2 zt))) ?_
  refine T_seqJ (α := List Pay) (fun (out_6 : List Pay) => (mk 97 [(7, (dt (.sl 2 (out_6.map encPay))))] [])) (fun (out_6 : List Pay) => g_ref42_Prizes_j1 out_6 = some r) (fun out_6 h => ?_) ?_
  refine T_reg [] [4, 5] [] (mk 97 [(4, (dt (.sl 2 (out_6.map encPay)))), (5, (di 0))] []) _ (by kernel_rfl) (z6 zt) ?_
  refine T_ret ?_
  obtain rfl := some_inv h
  exact ret_here [(dt (.sl 2 (out_6.map encPay))), (di 0)] (by kernel_rfl) ⟨(.inl rfl), (.inl rfl), trivial⟩
  refine T_reg [] [2, 3, 7, 8] [] (mk 97 [(2, (rf 2 0)), (3, (rf 3 0)), (7, (ow 20)), (8, (di 0))] [(20, (.row 56 2 (([] : List Pay).map encPay))), (3, (.var (qSch s_2))), (2, (.var (qTab t_1)))]) _ (by kernel_rfl) (z2 zt) ?_
  refine T_block ?_
  refine T_arr [.ice 20] [2, 3, 7, 8] [] [2, 3] _ (by kernel_rfl) (T_loopO (σ := (List Pay) × Int) (fun ((out_7, i_8) : (List Pay) × Int) => (mk 97 [(2, (rf 2 0)), (3, (rf 3 0)), (7, (dt (.sl 2 (out_7.map encPay)))), (8, (di i_8))] [(2, (.var (qTab t_1))), (3, (.var (qSch s_2)))])) (g_ref42_Prizes_l2 t_1 s_2) (([] : List Pay), 0) h (fun v y1 hy1 h => ?_))
  obtain ⟨out_7, i_8⟩ := v
  refine T_seq ?_
  refine T_reg [zn, zn, zn, (zd (I ((t_1.l.length : Nat) : Int)))] [2, 3, 7, 8, 25] [] (mk 97 [(2, (rf 2 0)), (3, (rf 3 0)), (7, (dt (.sl 2 (out_7.map encPay)))), (8, (di i_8)), (25, (db (decide (i_8 < ((t_1.l.length : Nat) : Int)))))] [(2, (.var (qTab t_1))), (3, (.var (qSch s_2)))]) _ (by kernel_rfl) (z7 (zc (len_s encPlace t_1.l) (z2 zt))) ?_
  refine T_cond (decide (i_8 < ((t_1.l.length : Nat) : Int))) (by kernel_rfl) (fun b11 => ?_) (fun b11 => ?_)
  replace h := ite_t b11 h
  refine T_skip ?_
  refine T_block ?_
  refine T_reg [] [2, 3, 7, 8, 9] [] (mk 97 [(2, (rf 2 0)), (3, (rf 3 0)), (7, (dt (.sl 2 (out_7.map encPay)))), (8, (di i_8)), (9, (di 0))] [(2, (.var (qTab t_1))), (3, (.var (qSch s_2)))]) _ (by kernel_rfl) (z2 zt) ?_
  refine T_reg [] [2, 3, 7, 8, 9, 10] [] (mk 97 [(2, (rf 2 0)), (3, (rf 3 0)), (7, (dt (.sl 2 (out_7.map encPay)))), (8, (di i_8)), (9, (di 0)), (10, (di 0))] [(2, (.var (qTab t_1))), (3, (.var (qSch s_2)))]) _ (by kernel_rfl) (z2 zt) ?_
  refine T_seqJ (α := Nat × Int) (fun ((m_12, sum_13) : Nat × Int) => (mk 97 [(2, (rf 2 0)), (3, (rf 3 0)), (7, (dt (.sl 2 (out_7.map encPay)))), (8, (di i_8)), (9, (di ((m_12 : Nat) : Int))), (10, (di sum_13))] [(2, (.var (qTab t_1))), (3, (.var (qSch s_2)))])) (fun ((m_12, sum_13) : Nat × Int) => g_ref42_Prizes_j3 i_8 t_1 s_2 out_7 m_12 sum_13 = some y1) (fun v h => ?_) ?_
  obtain ⟨m_12, sum_13⟩ := v
  obtain ⟨r_14, e15, h⟩ := bd_inv h
  obtain ⟨r_16, e17, h⟩ := bd_inv h
  refine T_reg [zn, zn, (zd (.sl 1 (r_14.map elI))), (zd (.tup [(.sl 1 (r_16.1.map elI)), (I r_16.2)]))] [2, 3, 7, 8, 9, 11] [] (mk 97 [(2, (rf 2 0)), (3, (rf 3 0)), (7, (dt (.sl 2 (out_7.map encPay)))), (8, (di i_8)), (9, (di ((m_12 : Nat) : Int))), (11, (dt (.sl 1 (r_16.1.map elI))))] [(2, (.var (qTab t_1))), (3, (.var (qSch s_2)))]) _ (by kernel_rfl) (z5 (zc (g_ref42_ones_ret e15) (z1 (zc (g_ref05_Split_ret e17) (z8 (z2 zt)))))) ?_
  refine T_seqJ (α := List Pay) (fun (out_18 : List Pay) => (mk 97 [(2, (rf 2 0)), (3, (rf 3 0)), (7, (dt (.sl 2 (out_18.map encPay)))), (8, (di i_8)), (9, (di ((m_12 : Nat) : Int)))] [(2, (.var (qTab t_1))), (3, (.var (qSch s_2)))])) (fun (out_18 : List Pay) => g_ref42_Prizes_j4 i_8 m_12 t_1 s_2 out_18 = some y1) (fun out_18 h => ?_) ?_
  obtain ⟨c19, h⟩ := ckI_inv h
  exact T_regJ [zn, zn, (zd (I (i_8 + ((m_12 : Nat) : Int))))] [] [2, 3, 7, 8] [] [2, 3] _ _ (by kernel_rfl) (z5 (zc c19 (z2 zt))) (fun s hs => Exists.intro (out_18, (i_8 + ((m_12 : Nat) : Int))) (And.intro h hs))
  refine T_reg [] [2, 3, 7, 8, 9, 11, 13] [] (mk 97 [(2, (rf 2 0)), (3, (rf 3 0)), (7, (dt (.sl 2 (out_7.map encPay)))), (8, (di i_8)), (9, (di ((m_12 : Nat) : Int))), (11, (dt (.sl 1 (r_16.1.map elI)))), (13, (di 0))] [(2, (.var (qTab t_1))), (3, (.var (qSch s_2)))]) _ (by kernel_rfl) (z2 zt) ?_
  refine T_block ?_
  refine T_arr [] [2, 3, 7, 8, 9, 11, 13] [] [2, 3] _ (by kernel_rfl) (T_loopO (σ := (List Pay) × Nat) (fun ((out_20, k_21) : (List Pay) × Nat) => (mk 97 [(2, (rf 2 0)), (3, (rf 3 0)), (7, (dt (.sl 2 (out_20.map encPay)))), (8, (di i_8)), (9, (di ((m_12 : Nat) : Int))), (11, (dt (.sl 1 (r_16.1.map elI)))), (13, (di ((k_21 : Nat) : Int)))] [(2, (.var (qTab t_1))), (3, (.var (qSch s_2)))])) (g_ref42_Prizes_l5 m_12 r_16 i_8 t_1 s_2) (out_7, 0) h (fun v y2 hy2 h => ?_))
  obtain ⟨out_20, k_21⟩ := v
  refine T_seq ?_
  refine T_reg [] [2, 3, 7, 8, 9, 11, 13, 69] [] (mk 97 [(2, (rf 2 0)), (3, (rf 3 0)), (7, (dt (.sl 2 (out_20.map encPay)))), (8, (di i_8)), (9, (di ((m_12 : Nat) : Int))), (11, (dt (.sl 1 (r_16.1.map elI)))), (13, (di ((k_21 : Nat) : Int))), (69, (db (decide (((k_21 : Nat) : Int) < ((m_12 : Nat) : Int)))))] [(2, (.var (qTab t_1))), (3, (.var (qSch s_2)))]) _ (by kernel_rfl) (z6 zt) ?_
  refine T_cond (decide (((k_21 : Nat) : Int) < ((m_12 : Nat) : Int))) (by kernel_rfl) (fun b24 => ?_) (fun b24 => ?_)
  replace h := ite_t b24 h
  refine T_skip ?_
  refine T_seqJ (α := List Pay) (fun (out_25 : List Pay) => (mk 97 [(2, (rf 2 0)), (3, (rf 3 0)), (7, (dt (.sl 2 (out_25.map encPay)))), (8, (di i_8)), (9, (di ((m_12 : Nat) : Int))), (11, (dt (.sl 1 (r_16.1.map elI)))), (13, (di ((k_21 : Nat) : Int)))] [(2, (.var (qTab t_1))), (3, (.var (qSch s_2)))])) (fun (out_25 : List Pay) => g_ref42_Prizes_j6 k_21 i_8 m_12 r_16 t_1 s_2 out_25 = some y2) (fun out_25 h => ?_) ?_
  obtain ⟨c26, h⟩ := ckI_inv h
  exact T_regJ [zn, (zd (I ((k_21 + 1 : Nat) : Int)))] [] [2, 3, 7, 8, 9, 11, 13] [] [2, 3] _ _ (by kernel_rfl) (z3 (zc c26 (z2 zt))) (fun s hs => Exists.intro (out_25, k_21 + 1) (And.intro h hs))
  refine T_block ?_
  obtain ⟨x_27, e28, e29, e30, h⟩ := gn_inv elI h
  refine T_reg [zn, zn, (zd (I x_27))] [2, 3, 7, 8, 9, 11, 13, 76] [] (mk 97 [(2, (rf 2 0)), (3, (rf 3 0)), (7, (dt (.sl 2 (out_20.map encPay)))), (8, (di i_8)), (9, (di ((m_12 : Nat) : Int))), (11, (dt (.sl 1 (r_16.1.map elI)))), (13, (di ((k_21 : Nat) : Int))), (76, (db (decide (x_27 > 0))))] [(2, (.var (qTab t_1))), (3, (.var (qSch s_2)))]) _ (by kernel_rfl) (z5 (zc e28 (z4 zt))) ?_
  refine T_cond (decide (x_27 > 0)) (by kernel_rfl) (fun b31 => ?_) (fun b31 => ?_)
  replace h := ite_t b31 h
  obtain ⟨c32, h⟩ := ckI_inv h
  obtain ⟨x_33, e34, e35, e36, h⟩ := gt_inv encPlace h
  obtain ⟨r_37, e38, h⟩ := bd_inv h
  exact T_regJD 17 (hl 16 [(5, (zd (I (i_8 + ((k_21 : Nat) : Int))))), (6, (zd (encPlace x_33))), (12, (zd (I x_27))), (15, (zd (.sl 2 (r_37.map encPay))))]) [] [2, 3, 7, 8, 9, 11, 13] [] [2, 3] _ _ (by kernel_rfl) (by kernel_rfl) (by kernel_rfl) (zc (z8 (z3 (zc c32 (z1 (zc e34 (z8 (z3 (zc e28 (z5 (zc (g_ref42_insert_ret e38) (z2 zt))))))))))) zt) (fun s hs => Exists.intro r_37 (And.intro h hs))
  replace h := ite_f b31 h
  refine T_skip ?_
  exact Exists.intro out_20 (And.intro h (arr [] [2, 3, 7, 8, 9, 11, 13] [] [2, 3] (by kernel_rfl)))
  replace h := ite_f b24 h
  refine T_exit ?_
  replace h := up_inv h hy2
  exact Exists.intro out_20 (And.intro h (arr [] [2, 3, 7, 8, 9] [] [2, 3] (by kernel_rfl)))
  refine T_block ?_
  refine T_arr [] [2, 3, 7, 8, 9, 10] [] [2, 3] _ (by kernel_rfl) (T_loopO (σ := Nat × Int) (fun ((m_39, sum_40) : Nat × Int) => (mk 97 [(2, (rf 2 0)), (3, (rf 3 0)), (7, (dt (.sl 2 (out_7.map encPay)))), (8, (di i_8)), (9, (di ((m_39 : Nat) : Int))), (10, (di sum_40))] [(2, (.var (qTab t_1))), (3, (.var (qSch s_2)))])) (g_ref42_Prizes_l7 i_8 t_1 s_2 out_7) (0, 0) h (fun v y2 hy2 h => ?_))
  obtain ⟨m_39, sum_40⟩ := v
  refine T_seq ?_
  refine T_seqJ (α := Bool) (fun (v_43 : Bool) => (mk 97 [(2, (rf 2 0)), (3, (rf 3 0)), (7, (dt (.sl 2 (out_7.map encPay)))), (8, (di i_8)), (9, (di ((m_39 : Nat) : Int))), (10, (di sum_40)), (49, (db (v_43)))] [(2, (.var (qTab t_1))), (3, (.var (qSch s_2)))])) (fun (v_43 : Bool) => g_ref42_Prizes_j8 i_8 m_39 s_2 sum_40 t_1 out_7 v_43 = some y2) (fun v_43 h => ?_) ?_
  refine T_cond (v_43) (by kernel_rfl) (fun b44 => ?_) (fun b44 => ?_)
  replace h := ite_t b44 h
  refine T_skip ?_
  refine T_block ?_
  obtain ⟨c45, h⟩ := ckI_inv h
  obtain ⟨c46, h⟩ := ckI_inv h
  obtain ⟨r_47, e48, h⟩ := bd_inv h
  obtain ⟨c49, h⟩ := ckI_inv h
  refine T_reg [zn, zn, zn, zn, (zd (I (i_8 + ((m_39 : Nat) : Int)))), (zd (I ((i_8 + ((m_39 : Nat) : Int)) + 1))), (zd (I r_47)), (zd (I (sum_40 + r_47)))] [2, 3, 7, 8, 9, 10] [] (mk 97 [(2, (rf 2 0)), (3, (rf 3 0)), (7, (dt (.sl 2 (out_7.map encPay)))), (8, (di i_8)), (9, (di ((m_39 : Nat) : Int))), (10, (di (sum_40 + r_47)))] [(2, (.var (qTab t_1))), (3, (.var (qSch s_2)))]) _ (by kernel_rfl) (z8 (z1 (zc c45 (z1 (zc c46 (z1 (zc (g_ref42_Part_ret e48) (z1 (zc c49 (z2 zt)))))))))) ?_
  obtain ⟨c50, h⟩ := ckI_inv h
  exact T_regJ [zn, (zd (I ((m_39 + 1 : Nat) : Int)))] [] [2, 3, 7, 8, 9, 10] [] [2, 3] _ _ (by kernel_rfl) (z3 (zc c50 (z2 zt))) (fun s hs => Exists.intro (m_39 + 1, (sum_40 + r_47)) (And.intro h hs))
  replace h := ite_f b44 h
  refine T_exit ?_
  replace h := up_inv h hy2
  exact Exists.intro (m_39, sum_40) (And.intro h (arr [] [2, 3, 7, 8, 9, 10] [] [2, 3] (by kernel_rfl)))
  obtain ⟨c51, h⟩ := ckI_inv h
  rcases Bool.eq_false_or_eq_true (decide ((i_8 + ((m_39 : Nat) : Int)) < ((t_1.l.length : Nat) : Int))) with b52 | b52
  replace h := ite_t b52 h
  obtain ⟨x_53, e54, e55, e56, h⟩ := gt_inv encPlace h
  obtain ⟨x_57, e58, e59, e60, h⟩ := gt_inv encPlace h
  exact T_regJD 24 (hl 24 [(2, (zd (I (i_8 + ((m_39 : Nat) : Int))))), (5, (zd (I ((t_1.l.length : Nat) : Int)))), (12, (zd (I (i_8 + ((m_39 : Nat) : Int))))), (13, (zd (encPlace x_53))), (19, (zd (encPlace x_57))), (23, (zd (B true)))]) [] [2, 3, 7, 8, 9, 10, 49] [] [2, 3] _ _ (by kernel_rfl) (by kernel_rfl) (by kernel_rfl) (zc (z5 (zc c51 (z5 (zc (len_s encPlace t_1.l) (z4 (zc (gd_tt b52) (z1 (zc (gd_tt b52) (z1 (zc (gd_tt b52) (z1 (zc (gd_tt b52) (z1 (zc (gd_tt b52) (zc c51 (zc (gd_tt b52) (zc e54 (zc (gd_tt b52) (z1 (zc (gd_tt b52) (z1 (zc (gd_tt b52) (z1 (zc (gd_tt b52) (z1 (zc (gd_tt b52) (z1 (zc (gd_tt b52) (zc e58 (zc (gd_tt b52) (z1 (zc (gd_tt b52) (z1 (zc (gd_tt b52) (z2 (zc b52 zt)))))))))))))))))))))))))))))))))))) zt) (fun s hs => Exists.intro (x_53.k == x_57.k) (And.intro h hs))
  replace h := ite_f b52 h
  exact T_regJD 24 [zn, zn, (zd (I (i_8 + ((m_39 : Nat) : Int)))), zn, zn, (zd (I ((t_1.l.length : Nat) : Int))), zn, zn, zg, zg, zg, zg, zg, zg, zg, zg, zg, zg, zg, zg, zg, zg, zg, (zd (B false))] [] [2, 3, 7, 8, 9, 10, 49] [] [2, 3] _ _ (by kernel_rfl) (by kernel_rfl) (by kernel_rfl) (zc (z5 (zc c51 (z5 (zc (len_s encPlace t_1.l) (z4 (zc (gd_ft b52) (zc (gd_ft b52) (zc (gd_ft b52) (zc (gd_ft b52) (zc (gd_ft b52) (zc (gd_ft b52) (zc (gd_ft b52) (zc (gd_ft b52) (zc (gd_ft b52) (zc (gd_ft b52) (zc (gd_ft b52) (zc (gd_ft b52) (zc (gd_ft b52) (zc (gd_ft b52) (zc (gd_ft b52) (z1 (zc b52 zt)))))))))))))))))))))) zt) (fun s hs => Exists.intro false (And.intro h hs))
  replace h := ite_f b11 h
  refine T_exit ?_
  replace h := up_inv h hy1
  exact Exists.intro out_7 (And.intro h (arr [] [7] [2, 3] [] (by kernel_rfl)))

theorem g_law42_PrizesPaySpec_ret {t_1 : Tab} {s_2 : Sch} {r : Bool} (h : g_law42_PrizesPaySpec t_1 s_2 = some r) : Ret Tryz.prog 3 [(encTab t_1), (encSch s_2)] (B (r)) := by
  refine Ret.of_T Tryz.func3 (by kernel_rfl) rfl ?_
  refine T_turn [] [0, 1] [] (mk 45 [(0, (.agg (qTab t_1))), (1, (.agg (qSch s_2)))] []) (by kernel_rfl) ?_
  refine T_reg [] [2, 3] [] (mk 45 [(2, (rf 2 0)), (3, (rf 3 0))] [(3, (.var (qSch s_2))), (2, (.var (qTab t_1)))]) _ (by kernel_rfl) (z6 zt) ?_
  refine T_seq ?_
  obtain ⟨r_3, e4, h⟩ := bd_inv h
  refine T_reg [(zd (B (r_3)))] [2, 3, 10] [] (mk 45 [(2, (rf 2 0)), (3, (rf 3 0)), (10, (db (!(r_3))))] [(3, (.var (qSch s_2))), (2, (.var (qTab t_1)))]) _ (by kernel_rfl) (z1 (zc (g_law42_sane_ret e4) (z2 zt))) ?_
  refine T_cond (!(r_3)) (by kernel_rfl) (fun b5 => ?_) (fun b5 => ?_)
  replace h := ite_t b5 h
  refine T_reg [] [4] [3, 2] (mk 45 [(4, (db false))] []) _ (by kernel_rfl) (z2 zt) ?_
  refine T_ret ?_
  obtain rfl := some_inv h
  exact ret_here [(db false)] (by kernel_rfl) (.inl rfl)
  replace h := ite_f b5 h
  refine T_skip ?_
  refine T_seq ?_
  obtain ⟨r_6, e7, h⟩ := bd_inv h
  obtain ⟨r_8, e9, h⟩ := bd_inv h
  refine T_reg [zn, zn, (zd (.tup [(.sl 3 (r_6.1.map encTab)), (.sl 6 (r_6.2.map encSch))])), zn, zn, (zd (B (r_8)))] [2, 3, 17] [] (mk 45 [(2, (rf 2 0)), (3, (rf 3 0)), (17, (db (!(r_8))))] [(3, (.var (qSch s_2))), (2, (.var (qTab t_1)))]) _ (by kernel_rfl) (z5 (zc (g_law42_one_ret e7) (z5 (zc (g_ref42_Few_ret e9) (z2 zt))))) ?_
  refine T_cond (!(r_8)) (by kernel_rfl) (fun b10 => ?_) (fun b10 => ?_)
  replace h := ite_t b10 h
  refine T_reg [] [4] [3, 2] (mk 45 [(4, (db true))] []) _ (by kernel_rfl) (z2 zt) ?_
  refine T_ret ?_
  obtain rfl := some_inv h
  exact ret_here [(db true)] (by kernel_rfl) (.inl rfl)
  replace h := ite_f b10 h
  refine T_skip ?_
  obtain ⟨r_11, e12, h⟩ := bd_inv h
  refine T_reg [zn, zn, (zd (.tup [(.sl 2 (r_11.1.map encPay)), (I r_11.2)]))] [2, 3, 5, 6] [] (mk 45 [(2, (rf 2 0)), (3, (rf 3 0)), (5, (dt (.sl 2 (r_11.1.map encPay)))), (6, (di r_11.2))] [(3, (.var (qSch s_2))), (2, (.var (qTab t_1)))]) _ (by kernel_rfl) (z5 (zc (g_prizes_Prizes_ret e12) (z8 (z2 zt)))) ?_
  obtain ⟨r_13, e14, h⟩ := bd_inv h
  refine T_reg [zn, zn, (zd (.tup [(.sl 2 (r_13.1.map encPay)), (I r_13.2)]))] [3, 5, 6, 7, 8] [2] (mk 45 [(3, (rf 3 0)), (5, (dt (.sl 2 (r_11.1.map encPay)))), (6, (di r_11.2)), (7, (dt (.sl 2 (r_13.1.map encPay)))), (8, (di r_13.2))] [(3, (.var (qSch s_2)))]) _ (by kernel_rfl) (z5 (zc (g_ref42_Prizes_ret e14) (z8 (z2 zt)))) ?_
  obtain ⟨r_15, e16, h⟩ := bd_inv h
  obtain ⟨r_17, e18, h⟩ := bd_inv h
  rcases Bool.eq_false_or_eq_true (r_15 == r_17) with b19 | b19
  replace h := ite_t b19 h
  obtain ⟨r_20, e21, h⟩ := bd_inv h
  rcases Bool.eq_false_or_eq_true (r_20) with b22 | b22
  replace h := ite_t b22 h
  refine T_regD 16 (hl 15 [(1, (zd (I r_15))), (3, (zd (I r_17))), (8, (zd (B (r_20)))), (9, (zd (B true))), (14, (zd (B true)))]) [4] [3] (mk 45 [(4, (db (r_11.2 == r_13.2)))] []) _ (by kernel_rfl) (by kernel_rfl) (by kernel_rfl) (zc (z3 (zc (g_prizes_Check_ret e16) (z3 (zc (g_ref42_Check_ret e18) (z4 (zc (gd_tt b19) (z1 (zc (gd_tt b19) (z1 (zc (gd_tt b19) (zc (g_ref42_Same_ret e21) (z1 (zc b19 (z2 (zc (gd_tt b22) (z1 (zc (gd_tt b22) (z1 (zc (gd_tt b22) (z2 (zc b22 (z2 zt)))))))))))))))))))))) zt) ?_
  refine T_ret ?_
  obtain rfl := some_inv h
  exact ret_here [(db (r_11.2 == r_13.2))] (by kernel_rfl) (.inl rfl)
  replace h := ite_f b22 h
  refine T_regD 16 [zn, (zd (I r_15)), zn, (zd (I r_17)), zn, zn, zn, zn, (zd (B (r_20))), (zd (B true)), zn, zg, zg, zg, (zd (B false))] [4] [3] (mk 45 [(4, (db false))] []) _ (by kernel_rfl) (by kernel_rfl) (by kernel_rfl) (zc (z3 (zc (g_prizes_Check_ret e16) (z3 (zc (g_ref42_Check_ret e18) (z4 (zc (gd_tt b19) (z1 (zc (gd_tt b19) (z1 (zc (gd_tt b19) (zc (g_ref42_Same_ret e21) (z1 (zc b19 (z2 (zc (gd_ft b22) (zc (gd_ft b22) (zc (gd_ft b22) (z1 (zc b22 (z2 zt)))))))))))))))))))) zt) ?_
  refine T_ret ?_
  obtain rfl := some_inv h
  exact ret_here [(db false)] (by kernel_rfl) (.inl rfl)
  replace h := ite_f b19 h
  refine T_regD 16 [zn, (zd (I r_15)), zn, (zd (I r_17)), zn, zn, zg, zg, zg, (zd (B false)), zn, zg, zg, zg, (zd (B false))] [4] [3] (mk 45 [(4, (db false))] []) _ (by kernel_rfl) (by kernel_rfl) (by kernel_rfl) (zc (z3 (zc (g_prizes_Check_ret e16) (z3 (zc (g_ref42_Check_ret e18) (z4 (zc (gd_ft b19) (zc (gd_ft b19) (zc (gd_ft b19) (z1 (zc b19 (z2 (zc (gd_ft (rfl : false = false)) (zc (gd_ft (rfl : false = false)) (zc (gd_ft (rfl : false = false)) (z1 (zc (rfl : false = false) (z2 zt))))))))))))))))) zt) ?_
  refine T_ret ?_
  obtain rfl := some_inv h
  exact ret_here [(db false)] (by kernel_rfl) (.inl rfl)

theorem g_ref42_with_ret {l_1 : List Int} {n_2 : Int} {r : List Int} (h : g_ref42_with l_1 n_2 = some r) : Ret Tryz.prog 44 [(.sl 1 (l_1.map elI)), (I n_2)] (.sl 1 (r.map elI)) := by
  refine Ret.of_T Tryz.func44 (by kernel_rfl) rfl ?_
  refine T_turn [] [0, 1] [] (mk 33 [(0, (dt (.sl 1 (l_1.map elI)))), (1, (di n_2))] []) (by kernel_rfl) ?_
  refine T_reg [] [0, 1] [] (mk 33 [(0, (dt (.sl 1 (l_1.map elI)))), (1, (di n_2))] []) _ (by kernel_rfl) (z2 zt) ?_
  refine T_reg [] [0, 1, 5] [] (mk 33 [(0, (dt (.sl 1 (l_1.map elI)))), (1, (di n_2)), (5, (di 0))] []) _ (by kernel_rfl) (z2 zt) ?_
  refine T_seqJ (α := Nat) (fun (k_3 : Nat) => (mk 33 [(0, (dt (.sl 1 (l_1.map elI)))), (1, (di n_2)), (5, (di ((k_3 : Nat) : Int)))] [])) (fun (k_3 : Nat) => g_ref42_with_j1 l_1 n_2 k_3 = some r) (fun k_3 h => ?_) ?_
  obtain ⟨s_4, e5, h⟩ := sb_inv 1 elI h
  obtain ⟨c6, h⟩ := ck_inv h
  refine T_reg [zn, zn, zn, zn, (zd (.sl 1 (s_4.map elI))), (zd (.sl 1 (([n_2] ++ s_4).map elI)))] [0, 5, 6] [] (mk 33 [(0, (dt (.sl 1 (l_1.map elI)))), (5, (di ((k_3 : Nat) : Int))), (6, (ow 26))] [(26, (.row 3 1 (([n_2] ++ s_4).map elI)))]) _ (by kernel_rfl) (z3 (zc (show dfill (fun i => some (i * 1, 1)) (List.replicate (1 * 1) .junk) [(0, [(.dat (I n_2))])] = some ((flat ([n_2].map elI)).map .dat) from rfl) (z5 (zc e5 (z1 (zc (app_s elI elI_one ([n_2]) s_4 c6) (z2 zt))))))) ?_
  refine T_seq (T_parts ?_)
  refine TL_part 3 [] (mk 33 [(0, (dt (.sl 1 (l_1.map elI)))), (5, (di ((k_3 : Nat) : Int))), (6, (ow 26)), (27, (dt (.sl 1 (l_1.map elI)))), (28, (di ((k_3 : Nat) : Int))), (29, (di ((k_3 : Nat) : Int)))] [(26, (.row 3 1 (([n_2] ++ s_4).map elI)))]) _ (by kernel_rfl) (z6 zt) rfl ?_
  obtain ⟨c7, h⟩ := ck_inv h
  obtain ⟨c8, h⟩ := ck_inv h
  refine TL_cutApp 41 3 1 8 30 31 32 32 k_3 26 rfl rfl rfl rfl rfl rfl rfl rfl rfl (by decide) (by kernel_rfl) (by kernel_rfl) (by kernel_rfl) (by kernel_rfl) (by decide) (by decide) (l_1.map elI) (([n_2] ++ s_4).map elI) (by kernel_rfl) (by kernel_rfl) (by kernel_rfl) (by rw [List.length_map]; exact c7) (by kernel_rfl) (by kernel_rfl) (by simp) (elI_one _) (by rw [List.length_map]; exact c8) (by decide) ((l_1.take k_3 ++ ([n_2] ++ s_4)).map elI) (by simp only [List.map_append, List.map_take]) ?_
  refine TL_turn [] [6, 32] [] (mk 33 [(6, (ow 26)), (32, (ow 32))] [(32, (.row 3 1 ((l_1.take k_3 ++ ([n_2] ++ s_4)).map elI))), (26, (.row 3 1 (([n_2] ++ s_4).map elI)))]) (by kernel_rfl) ?_
  refine TL_part 1 [] (mk 33 [(4, (ow 32)), (6, (ow 26)), (32, (ow 32))] [(32, (.row 3 1 ((l_1.take k_3 ++ ([n_2] ++ s_4)).map elI))), (26, (.row 3 1 (([n_2] ++ s_4).map elI)))]) _ (by kernel_rfl) (z2 zt) rfl ?_
  refine TL_nilQ ?_
  refine T_turn [] [4] [26] (mk 33 [(4, (ow 32))] [(32, (.row 3 1 ((l_1.take k_3 ++ ([n_2] ++ s_4)).map elI)))]) (by kernel_rfl) ?_
  refine T_ret ?_
  obtain rfl := some_inv h
  exact ret_here [(ow 32)] (by kernel_rfl) rfl
  refine T_block ?_
  refine T_arr [] [0, 1, 5] [] [] _ (by kernel_rfl) (T_loopO (σ := Nat) (fun (k_9 : Nat) => (mk 33 [(0, (dt (.sl 1 (l_1.map elI)))), (1, (di n_2)), (5, (di ((k_9 : Nat) : Int)))] [])) (g_ref42_with_l2 l_1 n_2) 0 h (fun k_9 y1 hy1 h => ?_))
  refine T_seq ?_
  refine T_seqJ (α := Bool) (fun (v_11 : Bool) => (mk 33 [(0, (dt (.sl 1 (l_1.map elI)))), (1, (di n_2)), (5, (di ((k_9 : Nat) : Int))), (18, (db (v_11)))] [])) (fun (v_11 : Bool) => g_ref42_with_j3 k_9 l_1 n_2 v_11 = some y1) (fun v_11 h => ?_) ?_
  refine T_cond (v_11) (by kernel_rfl) (fun b12 => ?_) (fun b12 => ?_)
  replace h := ite_t b12 h
  refine T_skip ?_
  refine T_block ?_
  obtain ⟨c13, h⟩ := ckI_inv h
  exact T_regJ [zn, (zd (I ((k_9 + 1 : Nat) : Int)))] [] [0, 1, 5] [] [] _ _ (by kernel_rfl) (z3 (zc c13 (z2 zt))) (fun s hs => Exists.intro (k_9 + 1) (And.intro h hs))
  replace h := ite_f b12 h
  refine T_exit ?_
  replace h := up_inv h hy1
  exact Exists.intro k_9 (And.intro h (arr [] [0, 1, 5] [] [] (by kernel_rfl)))
  rcases Bool.eq_false_or_eq_true (decide (((k_9 : Nat) : Int) < ((l_1.length : Nat) : Int))) with b14 | b14
  replace h := ite_t b14 h
  obtain ⟨x_15, e16, e17, e18, h⟩ := gn_inv elI h
  exact T_regJ (hl 12 [(2, (zd (I ((l_1.length : Nat) : Int)))), (7, (zd (I x_15))), (11, (zd (B true)))]) [] [0, 1, 5, 18] [] [] _ _ (by kernel_rfl) (z5 (zc (len_s elI l_1) (z4 (zc (gd_tt b14) (z1 (zc (gd_tt b14) (z1 (zc (gd_tt b14) (zc e16 (zc (gd_tt b14) (z1 (zc (gd_tt b14) (z1 (zc (gd_tt b14) (z2 (zc b14 zt)))))))))))))))) (fun s hs => Exists.intro (decide (x_15 < n_2)) (And.intro h hs))
  replace h := ite_f b14 h
  exact T_regJ [zn, zn, (zd (I ((l_1.length : Nat) : Int))), zn, zn, zg, zg, zg, zg, zg, zg, (zd (B false))] [] [0, 1, 5, 18] [] [] _ _ (by kernel_rfl) (z5 (zc (len_s elI l_1) (z4 (zc (gd_ft b14) (zc (gd_ft b14) (zc (gd_ft b14) (zc (gd_ft b14) (zc (gd_ft b14) (zc (gd_ft b14) (z1 (zc b14 zt))))))))))) (fun s hs => Exists.intro false (And.intro h hs))

theorem g_ref42_Moves_ret {t_1 : Tab} {s_2 : Sch} {r : (List Int) × (List Int) × Int} (h : g_ref42_Moves t_1 s_2 = some r) : Ret Tryz.prog 18 [(encTab t_1), (encSch s_2)] (.tup [(.sl 1 (r.1.map elI)), (.sl 1 (r.2.1.map elI)), (I r.2.2)]) := by
  refine Ret.of_T Tryz.func18 (by kernel_rfl) rfl ?_
  refine T_turn [] [0, 1] [] (mk 65 [(0, (.agg (qTab t_1))), (1, (.agg (qSch s_2)))] []) (by kernel_rfl) ?_
  refine T_reg [] [2, 3] [] (mk 65 [(2, (rf 2 0)), (3, (rf 3 0))] [(3, (.var (qSch s_2))), (2, (.var (qTab t_1)))]) _ (by kernel_rfl) (z8 (z2 zt)) ?_
  obtain ⟨r_3, e4, h⟩ := bd_inv h
  refine T_reg [zn, zn, (zd (I r_3))] [2, 3, 7] [] (mk 65 [(2, (rf 2 0)), (3, (rf 3 0)), (7, (di r_3))] [(3, (.var (qSch s_2))), (2, (.var (qTab t_1)))]) _ (by kernel_rfl) (z5 (zc (g_ref42_checked_ret e4) (z2 zt))) ?_
  refine T_seq ?_
  refine T_reg [] [2, 3, 7, 16] [] (mk 65 [(2, (rf 2 0)), (3, (rf 3 0)), (7, (di r_3)), (16, (db (r_3 != 0)))] [(3, (.var (qSch s_2))), (2, (.var (qTab t_1)))]) _ (by kernel_rfl) (z4 zt) ?_
  refine T_cond (r_3 != 0) (by kernel_rfl) (fun b5 => ?_) (fun b5 => ?_)
  replace h := ite_t b5 h
  refine T_reg [] [4, 5, 6] [3, 2] (mk 65 [(4, (dt nilS)), (5, (dt nilS)), (6, (di r_3))] []) _ (by kernel_rfl) (z8 zt) ?_
  refine T_ret ?_
  obtain rfl := some_inv h
  exact ret_here [(dt nilS), (dt nilS), (di r_3)] (by kernel_rfl) ⟨(.inr ⟨rfl, 1, rfl⟩), (.inr ⟨rfl, 1, rfl⟩), (.inl rfl), trivial⟩
  replace h := ite_f b5 h
  refine T_skip ?_
  refine T_reg [zn, zn, (zd (I ((t_1.l.length : Nat) : Int)))] [2, 3, 8] [] (mk 65 [(2, (rf 2 0)), (3, (rf 3 0)), (8, (di ((t_1.l.length : Nat) : Int)))] [(3, (.var (qSch s_2))), (2, (.var (qTab t_1)))]) _ (by kernel_rfl) (z5 (zc (len_s encPlace t_1.l) (z2 zt))) ?_
  refine T_seq ?_
  obtain ⟨c6, h⟩ := ckI_inv h
  refine T_reg (hl 5 [(4, (zd (I (s_2.u + s_2.d))))]) [2, 3, 8, 27] [] (mk 65 [(2, (rf 2 0)), (3, (rf 3 0)), (8, (di ((t_1.l.length : Nat) : Int))), (27, (db (decide ((s_2.u + s_2.d) > ((t_1.l.length : Nat) : Int)))))] [(3, (.var (qSch s_2))), (2, (.var (qTab t_1)))]) _ (by kernel_rfl) (z8 (z1 (zc c6 (z4 zt)))) ?_
  refine T_cond (decide ((s_2.u + s_2.d) > ((t_1.l.length : Nat) : Int))) (by kernel_rfl) (fun b7 => ?_) (fun b7 => ?_)
  replace h := ite_t b7 h
  refine T_reg [] [4, 5, 6] [3, 2] (mk 65 [(4, (dt nilS)), (5, (dt nilS)), (6, (di 420))] []) _ (by kernel_rfl) (z6 zt) ?_
  refine T_ret ?_
  obtain rfl := some_inv h
  exact ret_here [(dt nilS), (dt nilS), (di 420)] (by kernel_rfl) ⟨(.inr ⟨rfl, 1, rfl⟩), (.inr ⟨rfl, 1, rfl⟩), (.inl rfl), trivial⟩
  replace h := ite_f b7 h
  refine T_skip ?_
  refine T_reg [] [2, 3, 8, 9] [] (mk 65 [(2, (rf 2 0)), (3, (rf 3 0)), (8, (di ((t_1.l.length : Nat) : Int))), (9, (ow 28))] [(28, (.row 3 1 (([] : List Int).map elI))), (3, (.var (qSch s_2))), (2, (.var (qTab t_1)))]) _ (by kernel_rfl) (z1 (zc (show dfill (fun i => some (i * 1, 1)) (List.replicate (0 * 1) .junk) [] = some ((flat (([] : List Int).map elI)).map .dat) from rfl) (z2 zt))) ?_
  refine T_reg [] [2, 3, 8, 9, 10] [] (mk 65 [(2, (rf 2 0)), (3, (rf 3 0)), (8, (di ((t_1.l.length : Nat) : Int))), (9, (ow 28)), (10, (ow 29))] [(29, (.row 3 1 (([] : List Int).map elI))), (28, (.row 3 1 (([] : List Int).map elI))), (3, (.var (qSch s_2))), (2, (.var (qTab t_1)))]) _ (by kernel_rfl) (z1 (zc (show dfill (fun i => some (i * 1, 1)) (List.replicate (0 * 1) .junk) [] = some ((flat (([] : List Int).map elI)).map .dat) from rfl) (z2 zt))) ?_
  refine T_seqJ (α := (List Int) × (List Int)) (fun ((up_8, down_9) : (List Int) × (List Int)) => (mk 65 [(9, (dt (.sl 1 (up_8.map elI)))), (10, (dt (.sl 1 (down_9.map elI))))] [])) (fun ((up_8, down_9) : (List Int) × (List Int)) => g_ref42_Moves_j1 up_8 down_9 = some r) (fun v h => ?_) ?_
  obtain ⟨up_8, down_9⟩ := v
  refine T_reg [] [4, 5, 6] [] (mk 65 [(4, (dt (.sl 1 (up_8.map elI)))), (5, (dt (.sl 1 (down_9.map elI)))), (6, (di 0))] []) _ (by kernel_rfl) (z8 (z2 zt)) ?_
  refine T_ret ?_
  obtain rfl := some_inv h
  exact ret_here [(dt (.sl 1 (up_8.map elI))), (dt (.sl 1 (down_9.map elI))), (di 0)] (by kernel_rfl) ⟨(.inl rfl), (.inl rfl), (.inl rfl), trivial⟩
  refine T_reg [] [2, 3, 8, 9, 10, 11] [] (mk 65 [(2, (rf 2 0)), (3, (rf 3 0)), (8, (di ((t_1.l.length : Nat) : Int))), (9, (ow 28)), (10, (ow 29)), (11, (di 0))] [(29, (.row 3 1 (([] : List Int).map elI))), (28, (.row 3 1 (([] : List Int).map elI))), (3, (.var (qSch s_2))), (2, (.var (qTab t_1)))]) _ (by kernel_rfl) (z2 zt) ?_
  refine T_block ?_
  refine T_arr [.ice 28, .ice 29] [2, 3, 8, 9, 10, 11] [] [2, 3] _ (by kernel_rfl) (T_loopO (σ := (List Int) × (List Int) × Nat) (fun ((up_10, down_11, i_12) : (List Int) × (List Int) × Nat) => (mk 65 [(2, (rf 2 0)), (3, (rf 3 0)), (8, (di ((t_1.l.length : Nat) : Int))), (9, (dt (.sl 1 (up_10.map elI)))), (10, (dt (.sl 1 (down_11.map elI)))), (11, (di ((i_12 : Nat) : Int)))] [(2, (.var (qTab t_1))), (3, (.var (qSch s_2)))])) (g_ref42_Moves_l2 t_1 s_2) (([] : List Int), ([] : List Int), 0) h (fun v y1 hy1 h => ?_))
  obtain ⟨up_10, down_11, i_12⟩ := v
  refine T_seq ?_
  refine T_reg [] [2, 3, 8, 9, 10, 11, 32] [] (mk 65 [(2, (rf 2 0)), (3, (rf 3 0)), (8, (di ((t_1.l.length : Nat) : Int))), (9, (dt (.sl 1 (up_10.map elI)))), (10, (dt (.sl 1 (down_11.map elI)))), (11, (di ((i_12 : Nat) : Int))), (32, (db (decide (((i_12 : Nat) : Int) < ((t_1.l.length : Nat) : Int)))))] [(2, (.var (qTab t_1))), (3, (.var (qSch s_2)))]) _ (by kernel_rfl) (z6 zt) ?_
  refine T_cond (decide (((i_12 : Nat) : Int) < ((t_1.l.length : Nat) : Int))) (by kernel_rfl) (fun b16 => ?_) (fun b16 => ?_)
  replace h := ite_t b16 h
  refine T_skip ?_
  refine T_seqJ (α := (List Int) × (List Int)) (fun ((up_17, down_18) : (List Int) × (List Int)) => (mk 65 [(2, (rf 2 0)), (3, (rf 3 0)), (8, (di ((t_1.l.length : Nat) : Int))), (9, (dt (.sl 1 (up_17.map elI)))), (10, (dt (.sl 1 (down_18.map elI)))), (11, (di ((i_12 : Nat) : Int)))] [(2, (.var (qTab t_1))), (3, (.var (qSch s_2)))])) (fun ((up_17, down_18) : (List Int) × (List Int)) => g_ref42_Moves_j3 i_12 t_1 s_2 up_17 down_18 = some y1) (fun v h => ?_) ?_
  obtain ⟨up_17, down_18⟩ := v
  obtain ⟨c19, h⟩ := ckI_inv h
  exact T_regJ [zn, (zd (I ((i_12 + 1 : Nat) : Int)))] [] [2, 3, 8, 9, 10, 11] [] [2, 3] _ _ (by kernel_rfl) (z3 (zc c19 (z2 zt))) (fun s hs => Exists.intro (up_17, down_18, i_12 + 1) (And.intro h hs))
  refine T_block ?_
  refine T_seqJ (α := List Int) (fun (up_20 : List Int) => (mk 65 [(2, (rf 2 0)), (3, (rf 3 0)), (8, (di ((t_1.l.length : Nat) : Int))), (9, (dt (.sl 1 (up_20.map elI)))), (10, (dt (.sl 1 (down_11.map elI)))), (11, (di ((i_12 : Nat) : Int)))] [(2, (.var (qTab t_1))), (3, (.var (qSch s_2)))])) (fun (up_20 : List Int) => g_ref42_Moves_j4 t_1 s_2 i_12 down_11 up_20 = some y1) (fun up_20 h => ?_) ?_
  obtain ⟨c21, h⟩ := ckI_inv h
  refine T_reg (hl 5 [(4, (zd (I (((t_1.l.length : Nat) : Int) - s_2.d))))]) [2, 3, 8, 9, 10, 11, 53] [] (mk 65 [(2, (rf 2 0)), (3, (rf 3 0)), (8, (di ((t_1.l.length : Nat) : Int))), (9, (dt (.sl 1 (up_20.map elI)))), (10, (dt (.sl 1 (down_11.map elI)))), (11, (di ((i_12 : Nat) : Int))), (53, (db (decide (((i_12 : Nat) : Int) ≥ (((t_1.l.length : Nat) : Int) - s_2.d)))))] [(2, (.var (qTab t_1))), (3, (.var (qSch s_2)))]) _ (by kernel_rfl) (z8 (z1 (zc c21 (z2 zt)))) ?_
  refine T_cond (decide (((i_12 : Nat) : Int) ≥ (((t_1.l.length : Nat) : Int) - s_2.d))) (by kernel_rfl) (fun b22 => ?_) (fun b22 => ?_)
  replace h := ite_t b22 h
  obtain ⟨x_23, e24, e25, e26, h⟩ := gn_inv encPlace h
  obtain ⟨r_27, e28, h⟩ := bd_inv h
  exact T_regJ (hl 9 [(4, (zd (encPlace x_23))), (8, (zd (.sl 1 (r_27.map elI))))]) [] [2, 3, 8, 9, 10, 11] [] [2, 3] _ _ (by kernel_rfl) (z8 (z1 (zc e24 (z7 (zc (g_ref42_with_ret e28) (z2 zt)))))) (fun s hs => Exists.intro (up_20, r_27) (And.intro h hs))
  replace h := ite_f b22 h
  refine T_skip ?_
  exact Exists.intro (up_20, down_11) (And.intro h (arr [] [2, 3, 8, 9, 10, 11] [] [2, 3] (by kernel_rfl)))
  refine T_reg [] [2, 3, 8, 9, 10, 11, 38] [] (mk 65 [(2, (rf 2 0)), (3, (rf 3 0)), (8, (di ((t_1.l.length : Nat) : Int))), (9, (dt (.sl 1 (up_10.map elI)))), (10, (dt (.sl 1 (down_11.map elI)))), (11, (di ((i_12 : Nat) : Int))), (38, (db (decide (((i_12 : Nat) : Int) < s_2.u))))] [(2, (.var (qTab t_1))), (3, (.var (qSch s_2)))]) _ (by kernel_rfl) (z8 zt) ?_
  refine T_cond (decide (((i_12 : Nat) : Int) < s_2.u)) (by kernel_rfl) (fun b29 => ?_) (fun b29 => ?_)
  replace h := ite_t b29 h
  obtain ⟨x_30, e31, e32, e33, h⟩ := gn_inv encPlace h
  obtain ⟨r_34, e35, h⟩ := bd_inv h
  exact T_regJ (hl 9 [(4, (zd (encPlace x_30))), (8, (zd (.sl 1 (r_34.map elI))))]) [] [2, 3, 8, 9, 10, 11] [] [2, 3] _ _ (by kernel_rfl) (z8 (z1 (zc e31 (z7 (zc (g_ref42_with_ret e35) (z2 zt)))))) (fun s hs => Exists.intro r_34 (And.intro h hs))
  replace h := ite_f b29 h
  refine T_skip ?_
  exact Exists.intro up_10 (And.intro h (arr [] [2, 3, 8, 9, 10, 11] [] [2, 3] (by kernel_rfl)))
  replace h := ite_f b16 h
  refine T_exit ?_
  replace h := up_inv h hy1
  exact Exists.intro (up_10, down_11) (And.intro h (arr [] [9, 10] [2, 3] [] (by kernel_rfl)))

theorem g_law42_PrizesMovesSpec_ret {t_1 : Tab} {s_2 : Sch} {r : Bool} (h : g_law42_PrizesMovesSpec t_1 s_2 = some r) : Ret Tryz.prog 4 [(encTab t_1), (encSch s_2)] (B (r)) := by
  refine Ret.of_T Tryz.func4 (by kernel_rfl) rfl ?_
  refine T_turn [] [0, 1] [] (mk 47 [(0, (.agg (qTab t_1))), (1, (.agg (qSch s_2)))] []) (by kernel_rfl) ?_
  refine T_reg [] [2, 3] [] (mk 47 [(2, (rf 2 0)), (3, (rf 3 0))] [(3, (.var (qSch s_2))), (2, (.var (qTab t_1)))]) _ (by kernel_rfl) (z6 zt) ?_
  refine T_seq ?_
  obtain ⟨r_3, e4, h⟩ := bd_inv h
  refine T_reg [(zd (B (r_3)))] [2, 3, 12] [] (mk 47 [(2, (rf 2 0)), (3, (rf 3 0)), (12, (db (!(r_3))))] [(3, (.var (qSch s_2))), (2, (.var (qTab t_1)))]) _ (by kernel_rfl) (z1 (zc (g_law42_sane_ret e4) (z2 zt))) ?_
  refine T_cond (!(r_3)) (by kernel_rfl) (fun b5 => ?_) (fun b5 => ?_)
  replace h := ite_t b5 h
  refine T_reg [] [4] [3, 2] (mk 47 [(4, (db false))] []) _ (by kernel_rfl) (z2 zt) ?_
  refine T_ret ?_
  obtain rfl := some_inv h
  exact ret_here [(db false)] (by kernel_rfl) (.inl rfl)
  replace h := ite_f b5 h
  refine T_skip ?_
  refine T_seq ?_
  obtain ⟨r_6, e7, h⟩ := bd_inv h
  obtain ⟨r_8, e9, h⟩ := bd_inv h
  refine T_reg [zn, zn, (zd (.tup [(.sl 3 (r_6.1.map encTab)), (.sl 6 (r_6.2.map encSch))])), zn, zn, (zd (B (r_8)))] [2, 3, 19] [] (mk 47 [(2, (rf 2 0)), (3, (rf 3 0)), (19, (db (!(r_8))))] [(3, (.var (qSch s_2))), (2, (.var (qTab t_1)))]) _ (by kernel_rfl) (z5 (zc (g_law42_one_ret e7) (z5 (zc (g_ref42_Few_ret e9) (z2 zt))))) ?_
  refine T_cond (!(r_8)) (by kernel_rfl) (fun b10 => ?_) (fun b10 => ?_)
  replace h := ite_t b10 h
  refine T_reg [] [4] [3, 2] (mk 47 [(4, (db true))] []) _ (by kernel_rfl) (z2 zt) ?_
  refine T_ret ?_
  obtain rfl := some_inv h
  exact ret_here [(db true)] (by kernel_rfl) (.inl rfl)
  replace h := ite_f b10 h
  refine T_skip ?_
  obtain ⟨r_11, e12, h⟩ := bd_inv h
  refine T_reg [zn, zn, (zd (.tup [(.sl 1 (r_11.1.map elI)), (.sl 1 (r_11.2.1.map elI)), (I r_11.2.2)]))] [2, 3, 5, 6, 7] [] (mk 47 [(2, (rf 2 0)), (3, (rf 3 0)), (5, (dt (.sl 1 (r_11.1.map elI)))), (6, (dt (.sl 1 (r_11.2.1.map elI)))), (7, (di r_11.2.2))] [(3, (.var (qSch s_2))), (2, (.var (qTab t_1)))]) _ (by kernel_rfl) (z5 (zc (g_prizes_Moves_ret e12) (z8 (z6 zt)))) ?_
  obtain ⟨r_13, e14, h⟩ := bd_inv h
  refine T_reg [zn, zn, (zd (.tup [(.sl 1 (r_13.1.map elI)), (.sl 1 (r_13.2.1.map elI)), (I r_13.2.2)]))] [5, 6, 7, 8, 9, 10] [3, 2] (mk 47 [(5, (dt (.sl 1 (r_11.1.map elI)))), (6, (dt (.sl 1 (r_11.2.1.map elI)))), (7, (di r_11.2.2)), (8, (dt (.sl 1 (r_13.1.map elI)))), (9, (dt (.sl 1 (r_13.2.1.map elI)))), (10, (di r_13.2.2))] []) _ (by kernel_rfl) (z5 (zc (g_ref42_Moves_ret e14) (z8 (z6 zt)))) ?_
  obtain ⟨r_15, e16, h⟩ := bd_inv h
  rcases Bool.eq_false_or_eq_true (r_15) with b17 | b17
  replace h := ite_t b17 h
  obtain ⟨r_18, e19, h⟩ := bd_inv h
  rcases Bool.eq_false_or_eq_true (r_18) with b20 | b20
  replace h := ite_t b20 h
  refine T_reg (hl 13 [(2, (zd (B (r_15)))), (6, (zd (B (r_18)))), (7, (zd (B true))), (12, (zd (B true)))]) [4] [] (mk 47 [(4, (db (r_11.2.2 == r_13.2.2)))] []) _ (by kernel_rfl) (z5 (zc (g_ref42_SameInts_ret e16) (z2 (zc (gd_tt b17) (z1 (zc (gd_tt b17) (z1 (zc (gd_tt b17) (zc (g_ref42_SameInts_ret e19) (z1 (zc b17 (z2 (zc (gd_tt b20) (z1 (zc (gd_tt b20) (z1 (zc (gd_tt b20) (z2 (zc b20 (z2 zt)))))))))))))))))))) ?_
  refine T_ret ?_
  obtain rfl := some_inv h
  exact ret_here [(db (r_11.2.2 == r_13.2.2))] (by kernel_rfl) (.inl rfl)
  replace h := ite_f b20 h
  refine T_reg [zn, zn, (zd (B (r_15))), zn, zn, zn, (zd (B (r_18))), (zd (B true)), zn, zg, zg, zg, (zd (B false))] [4] [] (mk 47 [(4, (db false))] []) _ (by kernel_rfl) (z5 (zc (g_ref42_SameInts_ret e16) (z2 (zc (gd_tt b17) (z1 (zc (gd_tt b17) (z1 (zc (gd_tt b17) (zc (g_ref42_SameInts_ret e19) (z1 (zc b17 (z2 (zc (gd_ft b20) (zc (gd_ft b20) (zc (gd_ft b20) (z1 (zc b20 (z2 zt)))))))))))))))))) ?_
  refine T_ret ?_
  obtain rfl := some_inv h
  exact ret_here [(db false)] (by kernel_rfl) (.inl rfl)
  replace h := ite_f b17 h
  refine T_reg [zn, zn, (zd (B (r_15))), zn, zg, zg, zg, (zd (B false)), zn, zg, zg, zg, (zd (B false))] [4] [] (mk 47 [(4, (db false))] []) _ (by kernel_rfl) (z5 (zc (g_ref42_SameInts_ret e16) (z2 (zc (gd_ft b17) (zc (gd_ft b17) (zc (gd_ft b17) (z1 (zc b17 (z2 (zc (gd_ft (rfl : false = false)) (zc (gd_ft (rfl : false = false)) (zc (gd_ft (rfl : false = false)) (z1 (zc (rfl : false = false) (z2 zt))))))))))))))) ?_
  refine T_ret ?_
  obtain rfl := some_inv h
  exact ret_here [(db false)] (by kernel_rfl) (.inl rfl)

end Go.Proofs.YtoiiblkncbnlaaaGreat

/-
  Chapter 42: which clubs rise and fall. Conditions: those of each theorem.
-/
set_option linter.unusedVariables false
set_option linter.unusedSimpArgs false
namespace Go.Proofs.YtoiiblkncbnlaaaGreat
open Go.DL
def clubsL (l : List Place) : List Int := srtI (l.map clubOf)
def insAllI (l : List Int) : List Int := l.foldl (fun o n => insI n o) []
theorem insAllI_snoc (l : List Int) (n : Int) : insAllI (l ++ [n]) = insI n (insAllI l) := by simp [insAllI]
theorem insI_perm (n : Int) (l : List Int) : (insI n l).Perm (n :: l) := by
  induction l with
  | nil => exact List.Perm.refl _
  | cons x l ih =>
    rw [insI]; split
    · exact (ih.cons x).trans (List.Perm.swap n x l)
    · exact List.Perm.refl _
theorem insI_sorted {n : Int} {l : List Int} (h : l.Pairwise (· ≤ ·)) : (insI n l).Pairwise (· ≤ ·) := by
  induction l with
  | nil => simp [insI]
  | cons x l ih =>
    have h1 := List.pairwise_cons.1 h
    rw [insI]; split
    · rename_i hlt
      refine List.pairwise_cons.2 ⟨fun y hy => ?_, ih h1.2⟩
      rcases List.mem_cons.1 ((insI_perm n l).mem_iff.1 hy) with rfl | hy
      · omega
      · exact h1.1 y hy
    · rename_i hlt
      refine List.pairwise_cons.2 ⟨fun y hy => ?_, h⟩
      rcases List.mem_cons.1 hy with rfl | hy
      · omega
      · have := h1.1 y hy; omega
theorem foldl_ins (l : List Int) : ∀ o : List Int, o.Pairwise (· ≤ ·) → (l.foldl (fun o n => insI n o) o).Perm (o ++ l) ∧ (l.foldl (fun o n => insI n o) o).Pairwise (· ≤ ·) := by
  induction l with
  | nil => intro o h; exact ⟨by simp, h⟩
  | cons x l ih =>
    intro o h
    obtain ⟨h1, h2⟩ := ih (insI x o) (insI_sorted h)
    refine ⟨h1.trans ?_, h2⟩
    exact ((insI_perm x o).append_right l).trans (List.perm_middle.symm)
theorem insAllI_eq (l : List Int) : insAllI l = srtI l := by
  obtain ⟨h1, h2⟩ := foldl_ins l [] List.Pairwise.nil
  have h3 : (srtI l).Pairwise (· ≤ ·) := (List.pairwise_mergeSort (le := fun x y => decide (x ≤ y)) (fun a b c h1 h2 => by simp at *; omega) (fun a b => by simp; omega) l).imp fun h => by simpa using h
  exact ((h1.trans (by simp)).trans (srtI_perm l).symm).eq_of_pairwise (fun a b _ _ h1 h2 => by omega) h2 h3
theorem insAllI_length (l : List Int) : (insAllI l).length = l.length := by rw [insAllI_eq, srtI_length]
def movE (t : Tab) (s : Sch) : Int := if fitS t s ≠ 0 then fitS t s else if s.u + s.d > (t.l.length : Int) then 420 else 0
def upM (t : Tab) (s : Sch) : List Int := if movE t s ≠ 0 then [] else clubsL (t.l.take s.u.toNat)
def downM (t : Tab) (s : Sch) : List Int := if movE t s ≠ 0 then [] else clubsL (t.l.drop (t.l.length - s.d.toNat))
theorem movE_bad {t : Tab} {s : Sch} (h : fitS t s ≠ 0) : movE t s = fitS t s := by rw [movE, if_pos h]
theorem movE_420 {t : Tab} {s : Sch} (h : fitS t s = 0) (h2 : s.u + s.d > (t.l.length : Int)) : movE t s = 420 := by rw [movE, if_neg (by omega), if_pos h2]
theorem movE_ok {t : Tab} {s : Sch} (h : fitS t s = 0) (h2 : ¬ s.u + s.d > (t.l.length : Int)) : movE t s = 0 := by rw [movE, if_neg (by omega), if_neg h2]
theorem upM_nil {t : Tab} {s : Sch} (h : movE t s ≠ 0) : upM t s = [] := by rw [upM, if_pos h]
theorem downM_nil {t : Tab} {s : Sch} (h : movE t s ≠ 0) : downM t s = [] := by rw [downM, if_pos h]
theorem upM_ok {t : Tab} {s : Sch} (h : movE t s = 0) : upM t s = clubsL (t.l.take s.u.toNat) := by rw [upM, if_neg (by omega)]
theorem downM_ok {t : Tab} {s : Sch} (h : movE t s = 0) : downM t s = clubsL (t.l.drop (t.l.length - s.d.toNat)) := by rw [downM, if_neg (by omega)]
theorem fit_ranges {t : Tab} {s : Sch} (h : fitS t s = 0) : 0 ≤ s.u ∧ s.u ≤ 24 ∧ 0 ≤ s.d ∧ s.d ≤ 24 ∧ 2 ≤ t.l.length ∧ t.l.length ≤ 24 := by
  obtain ⟨h1, h2, _⟩ := fitS_ok h
  rcases chkT_cases t with h3 | ⟨_, h3, _⟩
  · omega
  · rcases chkS_cases s with h4 | ⟨_, h4, _⟩
    · omega
    · unfold headT at h3; unfold headS at h4; omega
theorem up_yes {l : List Place} {k u : Nat} {o : List Int} {x : Place} (h : o = insAllI ((l.take (min k u)).map clubOf)) (hx : l[k]? = some x) (hk : k < u) : insI x.r.c o = insAllI ((l.take (min (k + 1) u)).map clubOf) := by
  rw [Nat.min_eq_left (by omega)] at h ⊢
  rw [take_snoc hx, List.map_append, h]
  exact (insAllI_snoc _ _).symm
theorem up_no {l : List Place} {k u : Nat} {o : List Int} (h : o = insAllI ((l.take (min k u)).map clubOf)) (hk : u ≤ k) : o = insAllI ((l.take (min (k + 1) u)).map clubOf) := by
  rw [Nat.min_eq_right (by omega)] at h ⊢; exact h
theorem dn_yes {l : List Place} {k m : Nat} {o : List Int} {x : Place} (h : o = insAllI (((l.take k).drop m).map clubOf)) (hx : l[k]? = some x) (hk : m ≤ k) : insI x.r.c o = insAllI (((l.take (k + 1)).drop m).map clubOf) := by
  have hlt := (List.getElem?_eq_some_iff.1 hx).1
  rw [take_snoc hx, List.drop_append_of_le_length (by simp; omega), List.map_append, h]
  exact (insAllI_snoc _ _).symm
theorem dn_no {l : List Place} {k m : Nat} {o : List Int} (h : o = insAllI (((l.take k).drop m).map clubOf)) (hk : k < m) : o = insAllI (((l.take (k + 1)).drop m).map clubOf) := by
  rw [List.drop_eq_nil_of_le (by simp; omega)] at h ⊢; exact h
end Go.Proofs.YtoiiblkncbnlaaaGreat

/-
  Chapter 42: what the partial functions of the program compute: the checks. Conditions: those of each theorem.
-/
set_option linter.unusedVariables false
set_option linter.unusedSimpArgs false
namespace Go.DL
theorem loopO_ind {σ ρ : Type} {step : σ → Option (σ ⊕ ρ)} {r : ρ} (I : σ → Prop) (μ : σ → Nat) (h : ∀ x, I x → step x = some (.inr r) ∨ ∃ y, step x = some (.inl y) ∧ I y ∧ μ y < μ x) : ∀ x, I x → loopO step x = some r := by
  have key : ∀ n x, μ x = n → I x → loopO step x = some r := by
    intro n
    induction n using Nat.strongRecOn with
    | _ n ih =>
      intro x hn hx
      rcases h x hx with h1 | ⟨y, h1, h2, h3⟩
      · exact loopO_inr h1
      · rw [loopO_inl h1]
        exact ih (μ y) (by omega) y rfl h2
  exact fun x hx => key _ x rfl hx
end Go.DL
namespace Go.Proofs.YtoiiblkncbnlaaaGreat
open Go.DL
theorem within_eq (n a b : Int) : g_table_within n a b = some (decide (a ≤ n ∧ n ≤ b)) := by
  simp only [g_table_within]
  by_cases h1 : a ≤ n <;> by_cases h2 : n ≤ b <;> simp [h1, h2]
theorem within2_eq (n a b : Int) : g_prizes_Check_1 n a b = some (decide (a ≤ n ∧ n ≤ b)) := by
  simp only [g_prizes_Check_1]
  by_cases h1 : a ≤ n <;> by_cases h2 : n ≤ b <;> simp [h1, h2]
theorem checkRow_eq (r : Row) : g_table_checkRow r = some (rowOK r) := by
  unfold g_table_checkRow
  refine loopO_ind (fun k => k ≤ 9 ∧ ((nums r).drop k).all inR = (nums r).all inR) (fun k => 9 - k) ?_ 0 ⟨by omega, rfl⟩
  rintro k ⟨hk, iv⟩
  have h9 : (nums r).length = 9 := rfl
  by_cases hlt : k < 9
  · obtain ⟨x, hx⟩ : ∃ x, (nums r)[k]? = some x := ⟨_, List.getElem?_eq_getElem (by omega)⟩
    have hx' : ([r.pl, r.wo, r.dr, r.lo, r.fo, r.ag, r.af, r.aw, r.ca] : List Int)[k]? = some x := hx
    simp only [g_table_checkRow_l2, gn_some hx', within_eq, bd_some]
    by_cases hb : 0 ≤ x ∧ x ≤ 9999
    · right
      refine ⟨k + 1, ?_, ⟨by omega, all_step iv hx hb⟩, by omega⟩
      rw [ckI_pos (by omega) (by omega)]
      simp [hb]; omega
    · left
      have h1 : rowOK r = false := rowOK_no (all_stop iv hx (by omega))
      simp [hb, h1]; omega
  · left
    have he := all_end iv (by omega)
    have h1 : ¬ (k < 9) := by omega
    rw [rowOK_of he]
    by_cases hc : 0 ≤ r.c ∧ r.c ≤ 191 <;> by_cases hp : -99999 ≤ r.po ∧ r.po ≤ 99999 <;> simp [g_table_checkRow_l2, g_table_checkRow_j1, within_eq, h1, hc, hp] <;> omega
theorem row_step {t : Tab} {k : Nat} {m : List Int} {e x : Place} (hl : t.l.length ≤ 1000) (hx : t.l[k]? = some x) (he : 0 < k → t.l[k - 1]? = some e) (im : Seen m t.l k) (iml : m.length ≤ k) (hc : rowOK x.r = true → 0 ≤ x.r.c ∧ x.r.c ≤ 191) :
    g_table_Check_l3 t (k, m) = if placeOK k e ((t.l.take k).map clubOf) x then some (.inl (k + 1, sput m x.r.c)) else some (.inr 1) := by
  have hlt := (List.getElem?_eq_some_iff.1 hx).1
  have hs := im x.r.c
  have hmem : ∀ b, smem m x.r.c = b → (x.r.c ∉ (t.l.take k).map clubOf ↔ b = false) := fun b hb => by
    rw [hs] at hb; rw [← hb]; simp
  have hmx : m.length < maxLen := by simp only [maxLen]; omega
  have h6 : ∀ b, rowOK x.r = true → g_table_Check_j6 x m k t b = if b = true then some (.inr 1) else some (.inl (k + 1, sput m x.r.c)) := fun b hr => by
    have := hc hr
    cases b
    · simp only [g_table_Check_j6]; rw [ckI_pos (by omega) (by omega), ck_pos hmx, ckI_pos (by omega) (by omega)]; simp
    · simp [g_table_Check_j6]
  have h6t : g_table_Check_j6 x m k t true = some (.inr 1) := by simp [g_table_Check_j6]
  have h5 : ∀ b, g_table_Check_j5 x m k t b = if b = true ∧ x.z.length ≤ 24 ∧ rowOK x.r = true ∧ smem m x.r.c = false then some (.inl (k + 1, sput m x.r.c)) else some (.inr 1) := fun b => by
    simp only [g_table_Check_j5, checkRow_eq, bd_some, h6t]
    cases b
    · simp
    · by_cases hz : x.z.length ≤ 24
      · cases hr : rowOK x.r
        · simp
        · have := hc hr
          simp only [h6 _ hr]
          rw [ckI_pos (by omega) (by omega)]
          cases smem m x.r.c <;> simp [hz] <;> omega
      · simp [hz]; omega
  have e1 : -9223372036854775808 ≤ ((k : Nat) : Int) + 1 ∧ ((k : Nat) : Int) + 1 ≤ 9223372036854775807 := by omega
  have hsm := hmem _ rfl
  obtain ⟨R, hR⟩ : ∃ R, R = if placeOK k e ((t.l.take k).map clubOf) x then (some (.inl (k + 1, sput m x.r.c)) : Option ((Nat × List Int) ⊕ Int)) else some (.inr 1) := ⟨_, rfl⟩
  rw [← hR]
  have hend : ∀ b : Bool, (b = true ↔ shapeOK k e x) → g_table_Check_j5 x m k t b = R := fun b hb => by
    rw [h5, hR]
    by_cases hp : placeOK k e ((t.l.take k).map clubOf) x
    · rw [if_pos hp, if_pos ⟨hb.2 hp.1, hp.2.1, hp.2.2.1, hsm.1 hp.2.2.2⟩]
    · rw [if_neg hp, if_neg fun h => hp ⟨hb.1 h.1, h.2.1, h.2.2.1, hsm.2 h.2.2.2⟩]
  rcases Nat.eq_zero_or_pos k with h0 | h0
  · subst h0
    have j7 : ∀ b, g_table_Check_j4 0 t x m b = g_table_Check_j5 x m 0 t b := fun b => by simp [g_table_Check_j4, g_table_Check_j7]
    simp only [g_table_Check_l3, gn_some hx, within_eq, bd_some, j7]
    rw [ckI_pos e1.1 e1.2, if_pos (by simp; omega)]
    simp
    repeat' split
    all_goals (refine hend _ ?_; unfold shapeOK; simp_all; try omega)
  · have hg : t.l[(((k : Nat) : Int) - 1).toNat]? = some e := by rw [show (((k : Nat) : Int) - 1).toNat = k - 1 from by omega]; exact he h0
    have hk0 : ¬ k = 0 := by omega
    have j4 : ∀ b, g_table_Check_j4 k t x m b = if x.k = e.k then (if x.b = 0 then g_table_Check_j5 x m k t (decide (x.r.c > e.r.c)) else g_table_Check_j5 x m k t false) else g_table_Check_j5 x m k t b := fun b => by
      simp only [g_table_Check_j4, g_table_Check_j7]
      rw [if_pos (by simp; omega), ckI_pos (by omega) (by omega), gt_some hg (by omega), ckI_pos (by omega) (by omega), gt_some hg (by omega)]
      simp
    simp only [g_table_Check_l3, gn_some hx, within_eq, bd_some, j4]
    rw [ckI_pos e1.1 e1.2, if_pos (by simp; omega)]
    simp [h0, hk0]
    repeat' split
    all_goals (refine hend _ ?_; unfold shapeOK; simp_all; try omega)
theorem rowOK_c {r : Row} (h : rowOK r = true) : 0 ≤ r.c ∧ r.c ≤ 191 := by
  unfold rowOK at h
  rw [Bool.and_eq_true] at h
  have := of_decide_eq_true h.2
  omega
theorem tloop_eq {t : Tab} (hl : t.l.length ≤ 1000) (hh : headT t) : loopO (g_table_Check_l3 t) (0, []) = some (chkT t) := by
  refine loopO_ind (fun v => ∃ e, v.1 ≤ t.l.length ∧ plOK v.1 e ((t.l.take v.1).map clubOf) (t.l.drop v.1) = plOK 0 noPlace [] t.l ∧ (0 < v.1 → t.l[v.1 - 1]? = some e) ∧ Seen v.2 t.l v.1 ∧ v.2.length ≤ v.1) (fun v => t.l.length - v.1) ?_ (0, []) ⟨noPlace, by simp, rfl, by simp, seen_zero _, by simp⟩
  rintro ⟨k, m⟩ ⟨e, hk, iv, he, im, iml⟩
  dsimp only at hk iv he im iml
  by_cases hlt : k < t.l.length
  · obtain ⟨x, hx⟩ : ∃ x, t.l[k]? = some x := ⟨_, List.getElem?_eq_getElem hlt⟩
    rw [row_step hl hx he im iml rowOK_c]
    by_cases hp : placeOK k e ((t.l.take k).map clubOf) x
    · right
      rw [if_pos hp]
      refine ⟨_, rfl, ⟨x, hlt, plOK_step iv hx hp, fun _ => by simpa using hx, seen_step im hx, ?_⟩, by dsimp only; omega⟩
      have := sput_le x.r.c m
      dsimp only; omega
    · left
      rw [if_neg hp, ← chkT_bad2 (plOK_stop iv hx hp)]
  · left
    have h1 : ¬ (k < t.l.length) := hlt
    have h2 := chkT_ok hh (plOK_end iv (by omega))
    simp [g_table_Check_l3, g_table_Check_j2, h1, ← h2]
theorem tcheck_eq {t : Tab} (hl : t.l.length ≤ 1000) : g_table_Check t = some (chkT t) := by
  simp only [g_table_Check, within_eq, bd_some]
  have j1 : g_table_Check_j1 t true = some 1 := by simp [g_table_Check_j1]
  by_cases h : headT t
  · obtain ⟨h1, h2, h3, h4, h5, h6⟩ := h
    have j2 : g_table_Check_j1 t false = some (chkT t) := by simp only [g_table_Check_j1]; exact tloop_eq hl ⟨h1, h2, h3, h4, h5, h6⟩
    have g1 : (2 : Int) ≤ (t.l.length : Int) ∧ (t.l.length : Int) ≤ 24 := by omega
    simp [h1, h2, h3, h4, g1, j2]
  · rw [← chkT_bad h]
    unfold headT at h
    by_cases h1 : 0 ≤ t.s ∧ t.s ≤ 63 <;> by_cases h2 : 0 ≤ t.c ∧ t.c ≤ 15
    · have g1 : ¬ ((2 : Int) ≤ (t.l.length : Int) ∧ (t.l.length : Int) ≤ 24) := by omega
      simp only [h1, h2, g1, j1]; simp [j1]
    all_goals simp [h1, h2, j1]
end Go.Proofs.YtoiiblkncbnlaaaGreat

/-
  Chapter 42: what the partial functions compute: schemes, what fits. Conditions: those of each theorem.
-/
set_option linter.unusedVariables false
set_option linter.unusedSimpArgs false
namespace Go.Proofs.YtoiiblkncbnlaaaGreat
open Go.DL
set_option maxHeartbeats 4000000
theorem pj2_eq {s : Sch} {n : Int} (hh : headS s) : g_prizes_Check_j2 s n = some (if n ≤ 1125899906842624 ∧ tailS s then 0 else 420) := by
  unfold headS at hh
  obtain ⟨_, _, _, hu, _, hd, _⟩ := hh
  obtain ⟨R, hR⟩ : ∃ R : Int, R = if n ≤ 1125899906842624 ∧ tailS s then 0 else 420 := ⟨_, rfl⟩
  have h0 : n ≤ 1125899906842624 ∧ tailS s → some (0 : Int) = some R := fun h => by rw [hR, if_pos h]
  have h1 : ¬ (n ≤ 1125899906842624 ∧ tailS s) → some (420 : Int) = some R := fun h => by rw [hR, if_neg h]
  rw [← hR]
  clear hR
  unfold tailS at h0 h1
  simp only [g_prizes_Check_j2, g_prizes_Check_j4, g_prizes_Check_j5, g_prizes_Check_j3, within2_eq, bd_some, decide_eq_true_eq, Bool.not_eq_true', decide_eq_false_iff_not, beq_iff_eq, bne_iff_ne, bne_eq_false_iff_eq, Bool.false_eq_true, if_true, if_false]
  repeat' split
  all_goals first | (refine h1 ?_; omega) | (refine h0 ?_; omega)
theorem rj2_eq {s : Sch} {n : Int} (hh : headS s) : g_ref42_Check_j2 s n = some (if n ≤ 1125899906842624 ∧ tailS s then 0 else 420) := by
  unfold headS at hh
  obtain ⟨_, _, _, hu, _, hd, _⟩ := hh
  obtain ⟨R, hR⟩ : ∃ R : Int, R = if n ≤ 1125899906842624 ∧ tailS s then 0 else 420 := ⟨_, rfl⟩
  have h0 : n ≤ 1125899906842624 ∧ tailS s → some (0 : Int) = some R := fun h => by rw [hR, if_pos h]
  have h1 : ¬ (n ≤ 1125899906842624 ∧ tailS s) → some (420 : Int) = some R := fun h => by rw [hR, if_neg h]
  rw [← hR]
  clear hR
  unfold tailS at h0 h1
  have j3t : g_ref42_Check_j3 s true = some 420 := by simp [g_ref42_Check_j3]
  have j4 : ∀ b, g_ref42_Check_j4 b = if b = true then some 420 else some 0 := fun b => rfl
  simp only [g_ref42_Check_j2, j3t]
  simp only [g_ref42_Check_j3, j4, decide_eq_true_eq, Bool.not_eq_true', decide_eq_false_iff_not, beq_iff_eq, bne_iff_ne, bne_eq_false_iff_eq, Bool.false_eq_true, if_true, if_false]
  by_cases a0 : n > 1125899906842624
  · rw [if_pos a0]; exact h1 (by omega)
  rw [if_neg a0]
  by_cases a1 : s.ab < -1
  · rw [if_pos a1]; exact h1 (by omega)
  rw [if_neg a1]
  by_cases a2 : s.ab ≥ 8
  · rw [if_pos a2]; exact h1 (by omega)
  rw [if_neg a2]
  by_cases a3 : s.be < -1
  · rw [if_pos a3]; exact h1 (by omega)
  rw [if_neg a3]
  by_cases a4 : s.be ≥ 8
  · rw [if_pos a4]; exact h1 (by omega)
  rw [if_neg a4]
  by_cases a5 : s.ab = s.c
  · rw [if_pos a5]; exact h1 (by omega)
  rw [if_neg a5]
  by_cases a6 : s.be = s.c
  · rw [if_pos a6]; exact h1 (by omega)
  rw [if_neg a6]
  repeat' split
  all_goals first | (refine h1 ?_; omega) | (refine h0 ?_; omega)
theorem ploop_eq {s : Sch} (hh : headS s) : loopO (g_prizes_Check_l6 s) (0, 0, 0) = some (chkS s) := by
  have hlen := hh.2.2.1
  refine loopO_ind (fun v => v.2.2 ≤ s.p.length ∧ prOK v.2.1 (s.p.drop v.2.2) = prOK 0 s.p ∧ sumL v.1 ((s.p.drop v.2.2).map (·.a)) = sumA s.p ∧ 0 ≤ v.1 ∧ v.1 ≤ 1125899906842624 * (v.2.2 : Int)) (fun v => s.p.length - v.2.2) ?_ (0, 0, 0) ⟨by simp, rfl, rfl, by simp, by simp⟩
  rintro ⟨n, la, k⟩ ⟨hk, iv, is, hn0, hn1⟩
  dsimp only at hk iv is hn0 hn1
  by_cases hlt : k < s.p.length
  · obtain ⟨x, hx⟩ : ∃ x, s.p[k]? = some x := ⟨_, List.getElem?_eq_getElem hlt⟩
    have j7t : g_prizes_Check_j7 n x k s true = some (.inr 420) := by simp [g_prizes_Check_j7]
    have j7f : g_prizes_Check_j7 n x k s (!decide (1 ≤ x.a ∧ x.a ≤ 1125899906842624)) = if 1 ≤ x.a ∧ x.a ≤ 1125899906842624 then some (.inl (n + x.a, x.t, k + 1)) else some (.inr 420) := by
      by_cases ha : 1 ≤ x.a ∧ x.a ≤ 1125899906842624
      · rw [if_pos ha, decide_eq_true ha]
        simp only [g_prizes_Check_j7]
        rw [ckI_pos (by omega) (by omega), ckI_pos (by omega) (by omega)]; simp
      · rw [if_neg ha, decide_eq_false ha]; exact j7t
    have hstep : g_prizes_Check_l6 s (n, la, k) = if x.f ≤ la ∨ x.t < x.f ∨ x.t > 24 ∨ x.a < 1 ∨ x.a > 1125899906842624 then some (.inr 420) else some (.inl (n + x.a, x.t, k + 1)) := by
      simp only [g_prizes_Check_l6, gn_some hx, within2_eq, bd_some, j7t, j7f]
      rw [if_pos (by simp; omega)]
      by_cases h1 : x.f ≤ la
      · simp [h1]
      · by_cases h2 : x.t < x.f
        · simp [h1, h2]
        · by_cases h3 : x.t > 24
          · simp [h1, h2, h3]
          · by_cases h4 : 1 ≤ x.a ∧ x.a ≤ 1125899906842624
            · have h5 : ¬ (x.f ≤ la ∨ x.t < x.f ∨ x.t > 24 ∨ x.a < 1 ∨ x.a > 1125899906842624) := by omega
              rw [if_pos h4, if_neg h5]; simp [h1, h2, h3]
            · have h5 : x.f ≤ la ∨ x.t < x.f ∨ x.t > 24 ∨ x.a < 1 ∨ x.a > 1125899906842624 := by omega
              rw [if_neg h4, if_pos h5]; simp [h1, h2, h3]
    rw [hstep]
    by_cases hb : x.f ≤ la ∨ x.t < x.f ∨ x.t > 24 ∨ x.a < 1 ∨ x.a > 1125899906842624
    · left; rw [if_pos hb, ← chkS_bad2 (prOK_stop iv hx hb)]
    · right
      rw [if_neg hb]
      exact ⟨_, rfl, ⟨hlt, prOK_step iv hx hb, sumA_step is hx, by dsimp only; omega, by dsimp only; omega⟩, by dsimp only; omega⟩
  · left
    have hs := sumA_end is (by omega)
    have hp := prOK_end iv (by omega)
    have h1 : g_prizes_Check_l6 s (n, la, k) = up (g_prizes_Check_j2 s n) := by simp [g_prizes_Check_l6, hlt]
    rw [h1, pj2_eq hh, up_some]
    congr 2
    rw [chkS]
    by_cases ht : n ≤ 1125899906842624 ∧ tailS s
    · rw [if_pos ht, if_pos ⟨hh, ht.2, hp, by omega⟩]
    · rw [if_neg ht, if_neg]; rintro ⟨_, h2, _, h3⟩; exact ht ⟨by omega, h2⟩
theorem pcheck_eq {s : Sch} (hl : s.p.length ≤ 1000) : g_prizes_Check s = some (chkS s) := by
  simp only [g_prizes_Check, within2_eq, bd_some]
  have j1t : g_prizes_Check_j1 s true = some 420 := by simp [g_prizes_Check_j1]
  by_cases hh : headS s
  · have j1f : g_prizes_Check_j1 s false = some (chkS s) := by simp only [g_prizes_Check_j1]; exact ploop_eq hh
    obtain ⟨h1, h2, h3, h4, h5, h6, h7⟩ := hh
    have g1 : ¬ ((s.p.length : Int) > 24) := by omega
    simp [h1, h2, h4, h5, h6, h7, g1, j1f]
  · rw [← chkS_bad (fun h => hh h.1)]
    unfold headS at hh
    by_cases h1 : 0 ≤ s.c ∧ s.c ≤ 7
    · by_cases h2 : 0 ≤ s.u ∧ s.u ≤ 24
      · by_cases h3 : 0 ≤ s.d ∧ s.d ≤ 24
        · have g1 : (s.p.length : Int) > 24 := by omega
          simp only [h1, h2, h3, g1, j1t]; simp [j1t]
        · simp [h1, h2, h3, j1t]
      · simp [h1, h2, j1t]
    · simp [h1, j1t]
end Go.Proofs.YtoiiblkncbnlaaaGreat

/-
  The data-level framework, third series, part e: partial functions have values with a property: one rule for each shape of step, and a tactic that applies them. Generic; no condition.
-/
set_option linter.unusedVariables false
set_option linter.unusedSimpArgs false
namespace Go.DL
def WP {α : Type} (o : Option α) (Q : α → Prop) : Prop := ∃ x, o = some x ∧ Q x
section
variable {α β ρ σ : Type} {Q : ρ → Prop}
theorem WP.eq {o : Option ρ} {r : ρ} (h : WP o fun x => x = r) : o = some r := by obtain ⟨x, h1, rfl⟩ := h; exact h1
theorem WP.of {o : Option ρ} {r : ρ} (h : o = some r) (hq : Q r) : WP o Q := ⟨r, h, hq⟩
theorem WP.mono {o : Option ρ} {Q' : ρ → Prop} (h : WP o Q') (hq : ∀ x, Q' x → Q x) : WP o Q := by obtain ⟨x, h1, h2⟩ := h; exact ⟨x, h1, hq x h2⟩
theorem WP.ret {x : ρ} (h : Q x) : WP (some x) Q := ⟨x, rfl, h⟩
theorem WP.iteD {p : Prop} [d : Decidable p] [i : Decidable (decide p = true)] {a b : Option ρ} (h1 : p → WP a Q) (h2 : ¬ p → WP b Q) : WP (@ite _ (decide p = true) i a b) Q := by
  by_cases h : p
  · rw [if_pos (decide_eq_true h)]; exact h1 h
  · rw [if_neg (by simp [h])]; exact h2 h
theorem WP.iteE [DecidableEq α] {x y : α} [i : Decidable ((x == y) = true)] {a b : Option ρ} (h1 : x = y → WP a Q) (h2 : ¬ x = y → WP b Q) : WP (@ite _ ((x == y) = true) i a b) Q := by
  by_cases h : x = y
  · rw [if_pos (beq_iff_eq.2 h)]; exact h1 h
  · rw [if_neg (by simp [h])]; exact h2 h
theorem WP.iteN [DecidableEq α] {x y : α} [i : Decidable ((x != y) = true)] {a b : Option ρ} (h1 : ¬ x = y → WP a Q) (h2 : x = y → WP b Q) : WP (@ite _ ((x != y) = true) i a b) Q := by
  by_cases h : x = y
  · rw [if_neg (by simp [h])]; exact h2 h
  · rw [if_pos (bne_iff_ne.2 h)]; exact h1 h
theorem WP.iteT [i : Decidable (true = true)] {a b : Option ρ} (h : WP a Q) : WP (@ite _ (true = true) i a b) Q := by rw [if_pos rfl]; exact h
theorem WP.iteF [i : Decidable (false = true)] {a b : Option ρ} (h : WP b Q) : WP (@ite _ (false = true) i a b) Q := by rw [if_neg (by simp)]; exact h
theorem WP.iteNb {c : Bool} [i : Decidable ((!c) = true)] {a b : Option ρ} (h : WP (if c = true then b else a) Q) : WP (@ite _ ((!c) = true) i a b) Q := by
  cases c
  · rw [if_pos (show (!false) = true from rfl)]; rwa [if_neg (by simp)] at h
  · rw [if_neg (show ¬ (!true) = true by simp)]; rwa [if_pos rfl] at h
theorem WP.iteB {c : Bool} [i : Decidable (c = true)] {a b : Option ρ} (h1 : c = true → WP a Q) (h2 : c = false → WP b Q) : WP (@ite _ (c = true) i a b) Q := by
  cases c
  · rw [if_neg (by simp)]; exact h2 rfl
  · rw [if_pos rfl]; exact h1 rfl
theorem WP.ckI {n : Int} {o : Option ρ} (hn : -9223372036854775808 ≤ n ∧ n ≤ 9223372036854775807) (h : WP o Q) : WP (Go.DL.ckI n o) Q := by rw [ckI_pos hn.1 hn.2]; exact h
theorem WP.ck {p : Prop} [Decidable p] {o : Option ρ} (hp : p) (h : WP o Q) : WP (Go.DL.ck p o) Q := by rw [ck_pos hp]; exact h
theorem WP.gn {l : List α} {n : Nat} {k : α → Option ρ} (hn : n < l.length) (h : ∀ x, l[n]? = some x → WP (k x) Q) : WP (Go.DL.gn l n k) Q := by
  have hx : l[n]? = some l[n] := List.getElem?_eq_getElem hn
  rw [gn_some hx]; exact h _ hx
theorem WP.gt {l : List α} {i : Int} {k : α → Option ρ} (hn : 0 ≤ i ∧ i < (l.length : Int)) (h : ∀ x, l[i.toNat]? = some x → WP (k x) Q) : WP (Go.DL.gt l i k) Q := by
  have hx : l[i.toNat]? = some (l[i.toNat]'(by omega)) := List.getElem?_eq_getElem (by omega)
  rw [gt_some hx hn.1]; exact h _ hx
theorem WP.bd {o : Option α} {k : α → Option ρ} {r : α} (ho : o = some r) (h : WP (k r) Q) : WP (Go.DL.bd o k) Q := by rw [ho]; exact h
theorem WP.bdW {o : Option α} {k : α → Option ρ} (h : WP o fun x => WP (k x) Q) : WP (Go.DL.bd o k) Q := by obtain ⟨x, h1, h2⟩ := h; rw [h1]; exact h2
theorem WP.up {o : Option ρ} {Q : σ ⊕ ρ → Prop} (h : WP o fun r => Q (.inr r)) : WP (Go.DL.up o) Q := by obtain ⟨x, h1, h2⟩ := h; exact ⟨.inr x, by rw [h1]; rfl, h2⟩
theorem WP.letO {x : α} {k : α → Option ρ} (h : WP (k x) Q) : WP (Go.DL.letO x k) Q := h
theorem WP.sb {l : List α} {lo hi : Option Int} {k : List α → Option ρ} (h0 : 0 ≤ lo.getD 0 ∧ lo.getD 0 ≤ hi.getD l.length ∧ hi.getD l.length ≤ (l.length : Int)) (h : WP (k (subList l lo hi)) Q) : WP (Go.DL.sb l lo hi k) Q := by
  unfold Go.DL.sb; rw [if_pos h0]; exact h
theorem WP.sbp {n : Nat} {lo hi : Option Int} {k : Nat → Nat → Option ρ} (h0 : 0 ≤ lo.getD 0 ∧ lo.getD 0 ≤ hi.getD n ∧ hi.getD n ≤ (n : Int)) (h : WP (k (lo.getD 0).toNat ((hi.getD n).toNat - (lo.getD 0).toNat)) Q) : WP (Go.DL.sbp n lo hi k) Q := by
  unfold Go.DL.sbp; rw [if_pos h0]; exact h
/-- What one round of a loop leaves: another round's state, which is nearer the end, or the result. -/
def Rnd (I : σ → Prop) (μ : σ → Nat) (n : Nat) (Q : ρ → Prop) : σ ⊕ ρ → Prop
  | .inl y => I y ∧ μ y < n
  | .inr r => Q r
theorem WP.loop {step : σ → Option (σ ⊕ ρ)} {x : σ} (I : σ → Prop) (μ : σ → Nat) (h : ∀ x, I x → WP (step x) (Rnd I μ (μ x) Q)) (h0 : I x) : WP (loopO step x) Q := by
  have key : ∀ n x, μ x = n → I x → WP (loopO step x) Q := by
    intro n
    induction n using Nat.strongRecOn with
    | _ n ih =>
      intro x hn hx
      obtain ⟨z, h1, h2⟩ := h x hx
      match z, h1, h2 with
      | .inr r, h1, h2 => exact ⟨r, loopO_inr h1, h2⟩
      | .inl y, h1, h2 => rw [loopO_inl h1]; have := h2.2; exact ih (μ y) (by omega) y rfl h2.1
  exact key _ x rfl h0
end
end Go.DL

/-
  Chapter 42: what the reference's checks compute. Conditions: those of each theorem.
-/
set_option linter.unusedVariables false
set_option linter.unusedSimpArgs false
namespace Go.Proofs.YtoiiblkncbnlaaaGreat
open Go.DL
set_option maxHeartbeats 4000000
theorem rloop_eq {s : Sch} (hh : headS s) : loopO (g_ref42_Check_l5 s) (0, 0) = some (chkS s) := by
  have hlen := hh.2.2.1
  refine WP.eq (WP.loop (fun v => ∃ la, v.2 ≤ s.p.length ∧ prOK la (s.p.drop v.2) = prOK 0 s.p ∧ sumL v.1 ((s.p.drop v.2).map (·.a)) = sumA s.p ∧ 0 ≤ v.1 ∧ v.1 ≤ 1125899906842624 * (v.2 : Int) ∧ 0 ≤ la ∧ (v.2 = 0 → la = 0) ∧ (0 < v.2 → ∃ e, s.p[v.2 - 1]? = some e ∧ e.t = la)) (fun v => s.p.length - v.2) ?_ ⟨0, by simp, rfl, rfl, by simp, by simp, by simp, by simp, by simp⟩)
  rintro ⟨n, k⟩ ⟨la, hk, iv, is, hn0, hn1, hla, hl0, hl1⟩
  dsimp only at hk iv is hn0 hn1 hl0 hl1 ⊢
  simp only [g_ref42_Check_l5]
  refine WP.iteD (fun hlt => ?_) (fun hlt => ?_)
  · obtain ⟨x, hx⟩ : ∃ x, s.p[k]? = some x := ⟨_, List.getElem?_eq_getElem (by omega)⟩
    rw [gn_some hx]
    have j6 : ∀ b, (b = true ↔ x.f ≤ la ∨ x.t < x.f ∨ x.t > 24 ∨ x.a < 1 ∨ x.a > 1125899906842624) → WP (g_ref42_Check_j6 n x k s b) (Rnd (fun v : Int × Nat => ∃ la, v.2 ≤ s.p.length ∧ prOK la (s.p.drop v.2) = prOK 0 s.p ∧ sumL v.1 ((s.p.drop v.2).map (·.a)) = sumA s.p ∧ 0 ≤ v.1 ∧ v.1 ≤ 1125899906842624 * (v.2 : Int) ∧ 0 ≤ la ∧ (v.2 = 0 → la = 0) ∧ (0 < v.2 → ∃ e, s.p[v.2 - 1]? = some e ∧ e.t = la)) (fun v => s.p.length - v.2) (s.p.length - k) fun z => z = chkS s) := fun b hb => by
      cases b
      · have hnb : ¬ (x.f ≤ la ∨ x.t < x.f ∨ x.t > 24 ∨ x.a < 1 ∨ x.a > 1125899906842624) := fun h => by cases hb.2 h
        unfold g_ref42_Check_j6
        (repeat' (first | with_reducible (first | refine WP.iteT ?_ | refine WP.iteF ?_ | refine WP.iteNb ?_ | refine WP.iteD (fun _ => ?_) (fun _ => ?_) | refine WP.iteE (fun _ => ?_) (fun _ => ?_) | refine WP.iteN (fun _ => ?_) (fun _ => ?_) | refine WP.iteB (fun _ => ?_) (fun _ => ?_)) | (with_reducible refine WP.ckI ?_ ?_; · omega) | (with_reducible refine WP.gn ?_ (fun _ _ => ?_); · omega) | (with_reducible refine WP.gt ?_ (fun _ _ => ?_); · omega) | with_reducible (first | refine WP.up ?_ | refine WP.letO ?_ | refine WP.ret ?_)))
        exact ⟨⟨x.t, by dsimp only; omega, prOK_step iv hx hnb, sumA_step is hx, by dsimp only; omega, by dsimp only; omega, by omega, by simp, fun _ => ⟨x, by simpa using hx, rfl⟩⟩, by dsimp only; omega⟩
      · unfold g_ref42_Check_j6
        (repeat' (first | with_reducible (first | refine WP.iteT ?_ | refine WP.iteF ?_ | refine WP.iteNb ?_ | refine WP.iteD (fun _ => ?_) (fun _ => ?_) | refine WP.iteE (fun _ => ?_) (fun _ => ?_) | refine WP.iteN (fun _ => ?_) (fun _ => ?_) | refine WP.iteB (fun _ => ?_) (fun _ => ?_)) | (with_reducible refine WP.ckI ?_ ?_; · omega) | (with_reducible refine WP.gn ?_ (fun _ _ => ?_); · omega) | (with_reducible refine WP.gt ?_ (fun _ _ => ?_); · omega) | with_reducible (first | refine WP.up ?_ | refine WP.letO ?_ | refine WP.ret ?_)))
        exact chkS_bad2 (prOK_stop iv hx (hb.1 rfl))
    (repeat' (first | with_reducible (first | refine WP.iteT ?_ | refine WP.iteF ?_ | refine WP.iteNb ?_ | refine WP.iteD (fun _ => ?_) (fun _ => ?_) | refine WP.iteE (fun _ => ?_) (fun _ => ?_) | refine WP.iteN (fun _ => ?_) (fun _ => ?_) | refine WP.iteB (fun _ => ?_) (fun _ => ?_)) | (with_reducible refine WP.ckI ?_ ?_; · omega) | (with_reducible refine WP.gn ?_ (fun _ _ => ?_); · omega) | (with_reducible refine WP.gt ?_ (fun _ _ => ?_); · omega) | with_reducible (first | refine WP.up ?_ | refine WP.letO ?_ | refine WP.ret ?_)))
    all_goals refine j6 _ ?_
    all_goals try simp only [decide_eq_true_eq, true_iff, Bool.false_eq_true, false_iff]
    all_goals try omega
    · rename_i _ e he
      obtain ⟨e', he', rfl⟩ := hl1 (by omega)
      rw [show (((k : Nat) : Int) - 1).toNat = k - 1 by omega, he'] at he
      cases he
      omega
  · (repeat' (first | with_reducible (first | refine WP.iteT ?_ | refine WP.iteF ?_ | refine WP.iteNb ?_ | refine WP.iteD (fun _ => ?_) (fun _ => ?_) | refine WP.iteE (fun _ => ?_) (fun _ => ?_) | refine WP.iteN (fun _ => ?_) (fun _ => ?_) | refine WP.iteB (fun _ => ?_) (fun _ => ?_)) | (with_reducible refine WP.ckI ?_ ?_; · omega) | (with_reducible refine WP.gn ?_ (fun _ _ => ?_); · omega) | (with_reducible refine WP.gt ?_ (fun _ _ => ?_); · omega) | with_reducible (first | refine WP.up ?_ | refine WP.letO ?_ | refine WP.ret ?_)))
    · have hs := sumA_end is (by omega)
      have hp := prOK_end iv (by omega)
      refine WP.of (rj2_eq hh) ?_
      show _ = chkS s
      rw [chkS]
      by_cases ht : n ≤ 1125899906842624 ∧ tailS s
      · rw [if_pos ht, if_pos ⟨hh, ht.2, hp, by omega⟩]
      · rw [if_neg ht, if_neg]; rintro ⟨_, h2, _, h3⟩; exact ht ⟨by omega, h2⟩
theorem rcheck_eq (s : Sch) : g_ref42_Check s = some (chkS s) := by
  refine WP.eq ?_
  have j1 : ∀ b, (b = true ↔ ¬ headS s) → WP (g_ref42_Check_j1 s b) (fun x => x = chkS s) := fun b hb => by
    cases b
    · unfold g_ref42_Check_j1
      (first | with_reducible (first | refine WP.iteT ?_ | refine WP.iteF ?_ | refine WP.iteNb ?_ | refine WP.iteD (fun _ => ?_) (fun _ => ?_) | refine WP.iteE (fun _ => ?_) (fun _ => ?_) | refine WP.iteN (fun _ => ?_) (fun _ => ?_) | refine WP.iteB (fun _ => ?_) (fun _ => ?_)) | (with_reducible refine WP.ckI ?_ ?_; · omega) | (with_reducible refine WP.gn ?_ (fun _ _ => ?_); · omega) | (with_reducible refine WP.gt ?_ (fun _ _ => ?_); · omega) | with_reducible (first | refine WP.up ?_ | refine WP.letO ?_ | refine WP.ret ?_))
      have hh : headS s := by by_cases h : headS s; exact h; simp [h] at hb
      exact WP.of (rloop_eq hh) rfl
    · unfold g_ref42_Check_j1
      (repeat' (first | with_reducible (first | refine WP.iteT ?_ | refine WP.iteF ?_ | refine WP.iteNb ?_ | refine WP.iteD (fun _ => ?_) (fun _ => ?_) | refine WP.iteE (fun _ => ?_) (fun _ => ?_) | refine WP.iteN (fun _ => ?_) (fun _ => ?_) | refine WP.iteB (fun _ => ?_) (fun _ => ?_)) | (with_reducible refine WP.ckI ?_ ?_; · omega) | (with_reducible refine WP.gn ?_ (fun _ _ => ?_); · omega) | (with_reducible refine WP.gt ?_ (fun _ _ => ?_); · omega) | with_reducible (first | refine WP.up ?_ | refine WP.letO ?_ | refine WP.ret ?_)))
      exact chkS_bad fun h => hb.1 rfl h.1
  unfold g_ref42_Check
  (repeat' (first | with_reducible (first | refine WP.iteT ?_ | refine WP.iteF ?_ | refine WP.iteNb ?_ | refine WP.iteD (fun _ => ?_) (fun _ => ?_) | refine WP.iteE (fun _ => ?_) (fun _ => ?_) | refine WP.iteN (fun _ => ?_) (fun _ => ?_) | refine WP.iteB (fun _ => ?_) (fun _ => ?_)) | (with_reducible refine WP.ckI ?_ ?_; · omega) | (with_reducible refine WP.gn ?_ (fun _ _ => ?_); · omega) | (with_reducible refine WP.gt ?_ (fun _ _ => ?_); · omega) | with_reducible (first | refine WP.up ?_ | refine WP.letO ?_ | refine WP.ret ?_)))
  all_goals refine j1 _ ?_
  all_goals unfold headS
  all_goals try simp only [decide_eq_true_eq, true_iff]
  all_goals omega
end Go.Proofs.YtoiiblkncbnlaaaGreat
