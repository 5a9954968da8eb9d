/-
  Texts that belong together, one behind the other; what each of them proves, and under which conditions, its own heading says.
-/
import Derived.Test.YtoiiblkncbnlaaaGreatRows
import Derived.Test.YtoiiblkncbnlaaaGreatVe
/-
  Go functions as partial functions, printed by auto.py: what each returns when its partial function has a value. Conditions: those of each theorem.
-/
namespace Go.Proofs.YtoiiblkncbnlaaaGreat
open Go.DL
set_option maxRecDepth 100000
set_option maxHeartbeats 4000000
set_option linter.unusedVariables false
set_option linter.unusedSimpArgs false
theorem g_law42_PrizesMoves_ret {t_1 : Tab} {s_2 : Sch} {r : Bool} (h : g_law42_PrizesMoves t_1 s_2 = some r) : Ret Tryz.prog 7 [(encTab t_1), (encSch s_2)] (B (r)) := by
  refine Ret.of_T Tryz.func7 (by kernel_rfl) rfl ?_
  refine T_turn [] [0, 1] [] (mk 154 [(0, (.agg (qTab t_1))), (1, (.agg (qSch s_2)))] []) (by kernel_rfl) ?_
  refine T_reg [] [2, 3] [] (mk 154 [(2, (rf 2 0)), (3, (rf 3 0))] [(3, (.var (qSch s_2))), (2, (.var (qTab t_1)))]) _ (by kernel_rfl) (z6 zt) ?_
  refine T_seq ?_
  obtain ⟨r_3, e4, h⟩ := bd_inv h
  refine T_reg [(zd (B (r_3)))] [2, 3, 13] [] (mk 154 [(2, (rf 2 0)), (3, (rf 3 0)), (13, (db (!(r_3))))] [(3, (.var (qSch s_2))), (2, (.var (qTab t_1)))]) _ (by kernel_rfl) (z1 (zc (g_law42_sane_ret e4) (z2 zt))) ?_
  refine T_cond (!(r_3)) (by kernel_rfl) (fun b5 => ?_) (fun b5 => ?_)
  replace h := ite_t b5 h
  refine T_reg [] [4] [3, 2] (mk 154 [(4, (db false))] []) _ (by kernel_rfl) (z2 zt) ?_
  refine T_ret ?_
  obtain rfl := some_inv h
  exact ret_here [(db false)] (by kernel_rfl) (.inl rfl)
  replace h := ite_f b5 h
  refine T_skip ?_
  refine T_seq ?_
  obtain ⟨r_6, e7, h⟩ := bd_inv h
  obtain ⟨r_8, e9, h⟩ := bd_inv h
  refine T_reg [zn, zn, (zd (.tup [(.sl 3 (r_6.1.map encTab)), (.sl 6 (r_6.2.map encSch))])), zn, zn, (zd (B (r_8)))] [2, 3, 20] [] (mk 154 [(2, (rf 2 0)), (3, (rf 3 0)), (20, (db (!(r_8))))] [(3, (.var (qSch s_2))), (2, (.var (qTab t_1)))]) _ (by kernel_rfl) (z5 (zc (g_law42_one_ret e7) (z5 (zc (g_ref42_Few_ret e9) (z2 zt))))) ?_
  refine T_cond (!(r_8)) (by kernel_rfl) (fun b10 => ?_) (fun b10 => ?_)
  replace h := ite_t b10 h
  refine T_reg [] [4] [3, 2] (mk 154 [(4, (db true))] []) _ (by kernel_rfl) (z2 zt) ?_
  refine T_ret ?_
  obtain rfl := some_inv h
  exact ret_here [(db true)] (by kernel_rfl) (.inl rfl)
  replace h := ite_f b10 h
  refine T_skip ?_
  obtain ⟨r_11, e12, h⟩ := bd_inv h
  refine T_reg [zn, zn, (zd (.tup [(.sl 1 (r_11.1.map elI)), (.sl 1 (r_11.2.1.map elI)), (I r_11.2.2)]))] [2, 3, 5, 6, 7] [] (mk 154 [(2, (rf 2 0)), (3, (rf 3 0)), (5, (dt (.sl 1 (r_11.1.map elI)))), (6, (dt (.sl 1 (r_11.2.1.map elI)))), (7, (di r_11.2.2))] [(3, (.var (qSch s_2))), (2, (.var (qTab t_1)))]) _ (by kernel_rfl) (z5 (zc (g_prizes_Moves_ret e12) (z8 (z6 zt)))) ?_
  refine T_seq ?_
  refine T_reg [] [2, 3, 5, 6, 29] [] (mk 154 [(2, (rf 2 0)), (3, (rf 3 0)), (5, (dt (.sl 1 (r_11.1.map elI)))), (6, (dt (.sl 1 (r_11.2.1.map elI)))), (29, (db (r_11.2.2 != 0)))] [(3, (.var (qSch s_2))), (2, (.var (qTab t_1)))]) _ (by kernel_rfl) (z4 zt) ?_
  refine T_cond (r_11.2.2 != 0) (by kernel_rfl) (fun b13 => ?_) (fun b13 => ?_)
  replace h := ite_t b13 h
  obtain ⟨c14, h⟩ := ckI_inv h
  refine T_reg [zn, (zd (I ((r_11.1.length : Nat) : Int))), zn, (zd (I ((r_11.2.1.length : Nat) : Int))), (zd (I ((r_11.1.length + r_11.2.1.length : Nat) : Int)))] [4] [3, 2] (mk 154 [(4, (db (((r_11.1.length + r_11.2.1.length : Nat) : Int) == 0)))] []) _ (by kernel_rfl) (z3 (zc (len_s elI r_11.1) (z3 (zc (len_s elI r_11.2.1) (z1 (zc c14 (z4 zt))))))) ?_
  refine T_ret ?_
  obtain rfl := some_inv h
  exact ret_here [(db (((r_11.1.length + r_11.2.1.length : Nat) : Int) == 0))] (by kernel_rfl) (.inl rfl)
  replace h := ite_f b13 h
  refine T_skip ?_
  refine T_seq ?_
  refine T_seqJ (α := Bool) (fun (v_15 : Bool) => (mk 154 [(2, (rf 2 0)), (5, (dt (.sl 1 (r_11.1.map elI)))), (6, (dt (.sl 1 (r_11.2.1.map elI)))), (47, (db (v_15)))] [(2, (.var (qTab t_1)))])) (fun (v_15 : Bool) => g_law42_PrizesMoves_j1 r_11 t_1 v_15 = some r) (fun v_15 h => ?_) ?_
  refine T_cond (v_15) (by kernel_rfl) (fun b16 => ?_) (fun b16 => ?_)
  replace h := ite_t b16 h
  refine T_reg [] [4] [2] (mk 154 [(4, (db false))] []) _ (by kernel_rfl) (z2 zt) ?_
  refine T_ret ?_
  obtain rfl := some_inv h
  exact ret_here [(db false)] (by kernel_rfl) (.inl rfl)
  replace h := ite_f b16 h
  refine T_skip ?_
  refine T_seq (T_parts ?_)
  refine TL_makeMap 53 3 3 48 48 rfl rfl rfl (by kernel_rfl) (by decide) ?_
  refine TL_turn [] [2, 5, 6, 48] [] (mk 154 [(2, (rf 2 0)), (5, (dt (.sl 1 (r_11.1.map elI)))), (6, (dt (.sl 1 (r_11.2.1.map elI)))), (48, (ow 48))] [(48, (.map Tryz.prog 3 3 (mapD ([] : List (Int × Int))))), (2, (.var (qTab t_1)))]) (by kernel_rfl) ?_
  refine TL_part 1 [] (mk 154 [(2, (rf 2 0)), (5, (dt (.sl 1 (r_11.1.map elI)))), (6, (dt (.sl 1 (r_11.2.1.map elI)))), (8, (ow 48)), (48, (ow 48))] [(48, (.map Tryz.prog 3 3 (mapD ([] : List (Int × Int))))), (2, (.var (qTab t_1)))]) _ (by kernel_rfl) (z2 zt) rfl ?_
  refine TL_nilQ ?_
  refine T_turn [] [2, 5, 6, 8] [] (mk 154 [(2, (rf 2 0)), (5, (dt (.sl 1 (r_11.1.map elI)))), (6, (dt (.sl 1 (r_11.2.1.map elI)))), (8, (ow 48))] [(48, (.map Tryz.prog 3 3 (mapD ([] : List (Int × Int))))), (2, (.var (qTab t_1)))]) (by kernel_rfl) ?_
  refine T_seqJ (α := List (Int × Int)) (fun (m_17 : List (Int × Int)) => (mk 154 [(2, (rf 2 0)), (6, (dt (.sl 1 (r_11.2.1.map elI)))), (8, (ow 48))] [(2, (.var (qTab t_1))), (48, (.map Tryz.prog 3 3 (mapD m_17)))])) (fun (m_17 : List (Int × Int)) => g_law42_PrizesMoves_j2 r_11 t_1 m_17 = some r) (fun m_17 h => ?_) ?_
  refine T_seqJ (α := List (Int × Int)) (fun (m_18 : List (Int × Int)) => (mk 154 [(2, (rf 2 0)), (8, (ow 48))] [(2, (.var (qTab t_1))), (48, (.map Tryz.prog 3 3 (mapD m_18)))])) (fun (m_18 : List (Int × Int)) => g_law42_PrizesMoves_j3 t_1 m_18 = some r) (fun m_18 h => ?_) ?_
  refine T_seqJ (α := Unit) (fun (_ : Unit) => (mk 154 [] [])) (fun (_ : Unit) => g_law42_PrizesMoves_j4 = some r) (fun v h => ?_) ?_
  refine T_reg [] [4] [] (mk 154 [(4, (db true))] []) _ (by kernel_rfl) (z2 zt) ?_
  refine T_ret ?_
  obtain rfl := some_inv h
  exact ret_here [(db true)] (by kernel_rfl) (.inl rfl)
  refine T_reg [] [2, 8, 11] [] (mk 154 [(2, (rf 2 0)), (8, (ow 48)), (11, (di 0))] [(2, (.var (qTab t_1))), (48, (.map Tryz.prog 3 3 (mapD m_18)))]) _ (by kernel_rfl) (z2 zt) ?_
  refine T_block ?_
  refine T_arr [] [2, 8, 11] [] [2, 48] _ (by kernel_rfl) (T_loopO (σ := Nat) (fun (i_19 : Nat) => (mk 154 [(2, (rf 2 0)), (8, (ow 48)), (11, (di ((i_19 : Nat) : Int)))] [(2, (.var (qTab t_1))), (48, (.map Tryz.prog 3 3 (mapD m_18)))])) (g_law42_PrizesMoves_l5 t_1 m_18) 0 h (fun i_19 y1 hy1 h => ?_))
  refine T_seq ?_
  obtain ⟨c21, h⟩ := ckI_inv h
  refine T_reg [zn, (zd (I ((i_19 + 1 : Nat) : Int))), zn, zn, (zd (I ((t_1.l.length : Nat) : Int)))] [2, 8, 11, 131] [] (mk 154 [(2, (rf 2 0)), (8, (ow 48)), (11, (di ((i_19 : Nat) : Int))), (131, (db (decide (((i_19 + 1 : Nat) : Int) < ((t_1.l.length : Nat) : Int)))))] [(2, (.var (qTab t_1))), (48, (.map Tryz.prog 3 3 (mapD m_18)))]) _ (by kernel_rfl) (z3 (zc c21 (z5 (zc (len_s encPlace t_1.l) (z2 zt))))) ?_
  refine T_cond (decide (((i_19 + 1 : Nat) : Int) < ((t_1.l.length : Nat) : Int))) (by kernel_rfl) (fun b22 => ?_) (fun b22 => ?_)
  replace h := ite_t b22 h
  refine T_skip ?_
  refine T_seq ?_
  refine T_block ?_
  refine T_arr [] [2, 8, 11, 131] [] [2, 48] (mk 154 [(2, (rf 2 0)), (8, (ow 48)), (11, (di ((i_19 : Nat) : Int))), (131, (db (decide (((i_19 + 1 : Nat) : Int) < ((t_1.l.length : Nat) : Int)))))] [(2, (.var (qTab t_1))), (48, (.map Tryz.prog 3 3 (mapD m_18)))]) (by kernel_rfl) ?_
  obtain ⟨x_23, e24, e25, e26, h⟩ := gn_inv encPlace h
  obtain ⟨c27, h⟩ := ckI_in h
  obtain ⟨x_28, e29, e30, e31, h⟩ := gn_inv encPlace h
  obtain ⟨c32, h⟩ := ckI_in h
  refine T_anyVS [{}, {}, {}, {}, { h := zd (encPlace x_23) }, {}, {}, {}, { h := zd (I (mget m_18 x_23.r.c)) }, {}, {}, {}, {}, { h := zd (I ((i_19 + 1 : Nat) : Int)) }, { h := zd (encPlace x_28) }, {}, {}, {}, { h := zd (I (mget m_18 x_28.r.c)) }, {}] _ (mk 154 [(2, (rf 2 0)), (8, (ow 48)), (11, (di ((i_19 : Nat) : Int))), (131, (db (decide (((i_19 + 1 : Nat) : Int) < ((t_1.l.length : Nat) : Int)))))] [(2, (.var (qTab t_1))), (48, (.map Tryz.prog 3 3 (mapD m_18)))]) [(134, [(0, (ow 48))]), (135, [(1, (rf 2 2))]), (136, [(2, (dt (.sl 14 (t_1.l.map encPlace))))]), (137, [(3, (di ((i_19 : Nat) : Int)))]), (138, [(4, (dt (.ptr [(I x_23.k), (I x_23.b), (.str x_23.z), (I x_23.r.c), (I x_23.r.pl), (I x_23.r.wo), (I x_23.r.dr), (I x_23.r.lo), (I x_23.r.fo), (I x_23.r.ag), (I x_23.r.af), (I x_23.r.aw), (I x_23.r.ca), (I x_23.r.po)])))]), (139, [(5, (dt (.ptr [(I x_23.r.c), (I x_23.r.pl), (I x_23.r.wo), (I x_23.r.dr), (I x_23.r.lo), (I x_23.r.fo), (I x_23.r.ag), (I x_23.r.af), (I x_23.r.aw), (I x_23.r.ca), (I x_23.r.po)])))]), (140, [(6, (dt (.ptr [(I x_23.r.c), (I x_23.r.pl), (I x_23.r.wo), (I x_23.r.dr), (I x_23.r.lo), (I x_23.r.fo), (I x_23.r.ag), (I x_23.r.af), (I x_23.r.aw), (I x_23.r.ca), (I x_23.r.po)])))]), (141, [(7, (di x_23.r.c))]), (142, [(8, (di (mget m_18 x_23.r.c)))]), (143, [(9, (ow 48))]), (144, [(10, (rf 2 2))]), (145, [(11, (dt (.sl 14 (t_1.l.map encPlace))))]), (146, [(12, (di ((i_19 : Nat) : Int)))]), (147, [(13, (di ((i_19 + 1 : Nat) : Int)))]), (148, [(14, (dt (.ptr [(I x_28.k), (I x_28.b), (.str x_28.z), (I x_28.r.c), (I x_28.r.pl), (I x_28.r.wo), (I x_28.r.dr), (I x_28.r.lo), (I x_28.r.fo), (I x_28.r.ag), (I x_28.r.af), (I x_28.r.aw), (I x_28.r.ca), (I x_28.r.po)])))]), (149, [(15, (dt (.ptr [(I x_28.r.c), (I x_28.r.pl), (I x_28.r.wo), (I x_28.r.dr), (I x_28.r.lo), (I x_28.r.fo), (I x_28.r.ag), (I x_28.r.af), (I x_28.r.aw), (I x_28.r.ca), (I x_28.r.po)])))]), (150, [(16, (dt (.ptr [(I x_28.r.c), (I x_28.r.pl), (I x_28.r.wo), (I x_28.r.dr), (I x_28.r.lo), (I x_28.r.fo), (I x_28.r.ag), (I x_28.r.af), (I x_28.r.aw), (I x_28.r.ca), (I x_28.r.po)])))]), (151, [(17, (di x_28.r.c))]), (152, [(18, (di (mget m_18 x_28.r.c)))]), (153, [(19, (db (decide ((mget m_18 x_23.r.c) < (mget m_18 x_28.r.c)))))])] [] [2, 48] 20 [0, 0, 2, 0, 12, 16, 32, 64, 129, 0, 0, 1024, 0, 4096, 10240, 16384, 32768, 65536, 131584, 262400] (.n (.n (.n (.n (.n (.n (.n (.n (.n (.n .e 0 .e) 1 .e) 2 (.n .e 3 .e)) 6 (.n (.n .e 7 .e) 8 (.n .e 9 .e))) 10 (.n (.n (.n (.n .e 11 .e) 14 .e) 15 (.n .e 30 .e)) 31 (.n (.n .e 62 .e) 63 (.n .e 126 .e)))) 127 (.n (.n (.n (.n (.n .e 254 .e) 255 .e) 511 (.n .e 512 .e)) 513 (.n (.n .e 514 .e) 515 (.n .e 518 .e))) 519 (.n (.n (.n (.n .e 520 .e) 521 .e) 522 (.n .e 523 .e)) 526 (.n (.n .e 527 .e) 542 (.n .e 543 .e))))) 574 (.n (.n (.n (.n (.n (.n .e 575 .e) 638 .e) 639 (.n .e 766 .e)) 767 (.n (.n .e 1023 .e) 1024 (.n .e 1025 .e))) 1026 (.n (.n (.n (.n .e 1027 .e) 1030 .e) 1031 (.n .e 1032 .e)) 1033 (.n (.n .e 1034 .e) 1035 (.n .e 1038 .e)))) 1039 (.n (.n (.n (.n (.n .e 1054 .e) 1055 .e) 1086 (.n .e 1087 .e)) 1150 (.n (.n .e 1151 .e) 1278 (.n .e 1279 .e))) 1535 (.n (.n (.n (.n .e 1536 .e) 1537 .e) 1538 (.n .e 1539 .e)) 1542 (.n (.n .e 1543 .e) 1544 (.n .e 1545 .e)))))) 1546 (.n (.n (.n (.n (.n (.n (.n .e 1547 .e) 1550 .e) 1551 (.n .e 1566 .e)) 1567 (.n (.n .e 1598 .e) 1599 (.n .e 1662 .e))) 1663 (.n (.n (.n (.n .e 1790 .e) 1791 .e) 2047 (.n .e 3072 .e)) 3073 (.n (.n .e 3074 .e) 3075 (.n .e 3078 .e)))) 3079 (.n (.n (.n (.n (.n .e 3080 .e) 3081 .e) 3082 (.n .e 3083 .e)) 3086 (.n (.n .e 3087 .e) 3102 (.n .e 3103 .e))) 3134 (.n (.n (.n (.n .e 3135 .e) 3198 .e) 3199 (.n .e 3326 .e)) 3327 (.n (.n .e 3583 .e) 3584 (.n .e 3585 .e))))) 3586 (.n (.n (.n (.n (.n (.n .e 3587 .e) 3590 .e) 3591 (.n .e 3592 .e)) 3593 (.n (.n .e 3594 .e) 3595 (.n .e 3598 .e))) 3599 (.n (.n (.n (.n .e 3614 .e) 3615 .e) 3646 (.n .e 3647 .e)) 3710 (.n (.n .e 3711 .e) 3838 (.n .e 3839 .e)))) 4095 (.n (.n (.n (.n (.n .e 4096 .e) 4097 .e) 4098 (.n .e 4099 .e)) 4102 (.n (.n .e 4103 .e) 4104 (.n .e 4105 .e))) 4106 (.n (.n (.n .e 4107 .e) 4110 (.n .e 4111 .e)) 4126 (.n (.n .e 4127 .e) 4158 (.n .e 4159 .e))))))) 4222 (.n (.n (.n (.n (.n (.n (.n (.n .e 4223 .e) 4350 .e) 4351 (.n .e 4607 .e)) 4608 (.n (.n .e 4609 .e) 4610 (.n .e 4611 .e))) 4614 (.n (.n (.n (.n .e 4615 .e) 4616 .e) 4617 (.n .e 4618 .e)) 4619 (.n (.n .e 4622 .e) 4623 (.n .e 4638 .e)))) 4639 (.n (.n (.n (.n (.n .e 4670 .e) 4671 .e) 4734 (.n .e 4735 .e)) 4862 (.n (.n .e 4863 .e) 5119 (.n .e 5120 .e))) 5121 (.n (.n (.n (.n .e 5122 .e) 5123 .e) 5126 (.n .e 5127 .e)) 5128 (.n (.n .e 5129 .e) 5130 (.n .e 5131 .e))))) 5134 (.n (.n (.n (.n (.n (.n .e 5135 .e) 5150 .e) 5151 (.n .e 5182 .e)) 5183 (.n (.n .e 5246 .e) 5247 (.n .e 5374 .e))) 5375 (.n (.n (.n (.n .e 5631 .e) 5632 .e) 5633 (.n .e 5634 .e)) 5635 (.n (.n .e 5638 .e) 5639 (.n .e 5640 .e)))) 5641 (.n (.n (.n (.n (.n .e 5642 .e) 5643 .e) 5646 (.n .e 5647 .e)) 5662 (.n (.n .e 5663 .e) 5694 (.n .e 5695 .e))) 5758 (.n (.n (.n .e 5759 .e) 5886 (.n .e 5887 .e)) 6143 (.n (.n .e 7168 .e) 7169 (.n .e 7170 .e)))))) 7171 (.n (.n (.n (.n (.n (.n (.n .e 7174 .e) 7175 .e) 7176 (.n .e 7177 .e)) 7178 (.n (.n .e 7179 .e) 7182 (.n .e 7183 .e))) 7198 (.n (.n (.n (.n .e 7199 .e) 7230 .e) 7231 (.n .e 7294 .e)) 7295 (.n (.n .e 7422 .e) 7423 (.n .e 7679 .e)))) 7680 (.n (.n (.n (.n (.n .e 7681 .e) 7682 .e) 7683 (.n .e 7686 .e)) 7687 (.n (.n .e 7688 .e) 7689 (.n .e 7690 .e))) 7691 (.n (.n (.n (.n .e 7694 .e) 7695 .e) 7710 (.n .e 7711 .e)) 7742 (.n (.n .e 7743 .e) 7806 (.n .e 7807 .e))))) 7934 (.n (.n (.n (.n (.n (.n .e 7935 .e) 8191 .e) 12288 (.n .e 12289 .e)) 12290 (.n (.n .e 12291 .e) 12294 (.n .e 12295 .e))) 12296 (.n (.n (.n (.n .e 12297 .e) 12298 .e) 12299 (.n .e 12302 .e)) 12303 (.n (.n .e 12318 .e) 12319 (.n .e 12350 .e)))) 12351 (.n (.n (.n (.n (.n .e 12414 .e) 12415 .e) 12542 (.n .e 12543 .e)) 12799 (.n (.n .e 12800 .e) 12801 (.n .e 12802 .e))) 12803 (.n (.n (.n .e 12806 .e) 12807 (.n .e 12808 .e)) 12809 (.n (.n .e 12810 .e) 12811 (.n .e 12814 .e)))))))) 12815 (.n (.n (.n (.n (.n (.n (.n (.n (.n .e 12830 .e) 12831 .e) 12862 (.n .e 12863 .e)) 12926 (.n (.n .e 12927 .e) 13054 (.n .e 13055 .e))) 13311 (.n (.n (.n (.n .e 13312 .e) 13313 .e) 13314 (.n .e 13315 .e)) 13318 (.n (.n .e 13319 .e) 13320 (.n .e 13321 .e)))) 13322 (.n (.n (.n (.n (.n .e 13323 .e) 13326 .e) 13327 (.n .e 13342 .e)) 13343 (.n (.n .e 13374 .e) 13375 (.n .e 13438 .e))) 13439 (.n (.n (.n (.n .e 13566 .e) 13567 .e) 13823 (.n .e 13824 .e)) 13825 (.n (.n .e 13826 .e) 13827 (.n .e 13830 .e))))) 13831 (.n (.n (.n (.n (.n (.n .e 13832 .e) 13833 .e) 13834 (.n .e 13835 .e)) 13838 (.n (.n .e 13839 .e) 13854 (.n .e 13855 .e))) 13886 (.n (.n (.n (.n .e 13887 .e) 13950 .e) 13951 (.n .e 14078 .e)) 14079 (.n (.n .e 14335 .e) 15360 (.n .e 15361 .e)))) 15362 (.n (.n (.n (.n (.n .e 15363 .e) 15366 .e) 15367 (.n .e 15368 .e)) 15369 (.n (.n .e 15370 .e) 15371 (.n .e 15374 .e))) 15375 (.n (.n (.n .e 15390 .e) 15391 (.n .e 15422 .e)) 15423 (.n (.n .e 15486 .e) 15487 (.n .e 15614 .e)))))) 15615 (.n (.n (.n (.n (.n (.n (.n .e 15871 .e) 15872 .e) 15873 (.n .e 15874 .e)) 15875 (.n (.n .e 15878 .e) 15879 (.n .e 15880 .e))) 15881 (.n (.n (.n (.n .e 15882 .e) 15883 .e) 15886 (.n .e 15887 .e)) 15902 (.n (.n .e 15903 .e) 15934 (.n .e 15935 .e)))) 15998 (.n (.n (.n (.n (.n .e 15999 .e) 16126 .e) 16127 (.n .e 16383 .e)) 31744 (.n (.n .e 31745 .e) 31746 (.n .e 31747 .e))) 31750 (.n (.n (.n (.n .e 31751 .e) 31752 .e) 31753 (.n .e 31754 .e)) 31755 (.n (.n .e 31758 .e) 31759 (.n .e 31774 .e))))) 31775 (.n (.n (.n (.n (.n (.n .e 31806 .e) 31807 .e) 31870 (.n .e 31871 .e)) 31998 (.n (.n .e 31999 .e) 32255 (.n .e 32256 .e))) 32257 (.n (.n (.n (.n .e 32258 .e) 32259 .e) 32262 (.n .e 32263 .e)) 32264 (.n (.n .e 32265 .e) 32266 (.n .e 32267 .e)))) 32270 (.n (.n (.n (.n (.n .e 32271 .e) 32286 .e) 32287 (.n .e 32318 .e)) 32319 (.n (.n .e 32382 .e) 32383 (.n .e 32510 .e))) 32511 (.n (.n (.n .e 32767 .e) 64512 (.n .e 64513 .e)) 64514 (.n (.n .e 64515 .e) 64518 (.n .e 64519 .e))))))) 64520 (.n (.n (.n (.n (.n (.n (.n (.n .e 64521 .e) 64522 .e) 64523 (.n .e 64526 .e)) 64527 (.n (.n .e 64542 .e) 64543 (.n .e 64574 .e))) 64575 (.n (.n (.n (.n .e 64638 .e) 64639 .e) 64766 (.n .e 64767 .e)) 65023 (.n (.n .e 65024 .e) 65025 (.n .e 65026 .e)))) 65027 (.n (.n (.n (.n (.n .e 65030 .e) 65031 .e) 65032 (.n .e 65033 .e)) 65034 (.n (.n .e 65035 .e) 65038 (.n .e 65039 .e))) 65054 (.n (.n (.n (.n .e 65055 .e) 65086 .e) 65087 (.n .e 65150 .e)) 65151 (.n (.n .e 65278 .e) 65279 (.n .e 65535 .e))))) 130048 (.n (.n (.n (.n (.n (.n .e 130049 .e) 130050 .e) 130051 (.n .e 130054 .e)) 130055 (.n (.n .e 130056 .e) 130057 (.n .e 130058 .e))) 130059 (.n (.n (.n (.n .e 130062 .e) 130063 .e) 130078 (.n .e 130079 .e)) 130110 (.n (.n .e 130111 .e) 130174 (.n .e 130175 .e)))) 130302 (.n (.n (.n (.n (.n .e 130303 .e) 130559 .e) 130560 (.n .e 130561 .e)) 130562 (.n (.n .e 130563 .e) 130566 (.n .e 130567 .e))) 130568 (.n (.n (.n .e 130569 .e) 130570 (.n .e 130571 .e)) 130574 (.n (.n .e 130575 .e) 130590 (.n .e 130591 .e)))))) 130622 (.n (.n (.n (.n (.n (.n (.n .e 130623 .e) 130686 .e) 130687 (.n .e 130814 .e)) 130815 (.n (.n .e 131071 .e) 261120 (.n .e 261121 .e))) 261122 (.n (.n (.n (.n .e 261123 .e) 261126 .e) 261127 (.n .e 261128 .e)) 261129 (.n (.n .e 261130 .e) 261131 (.n .e 261134 .e)))) 261135 (.n (.n (.n (.n (.n .e 261150 .e) 261151 .e) 261182 (.n .e 261183 .e)) 261246 (.n (.n .e 261247 .e) 261374 (.n .e 261375 .e))) 261631 (.n (.n (.n (.n .e 261632 .e) 261633 .e) 261634 (.n .e 261635 .e)) 261638 (.n (.n .e 261639 .e) 261640 (.n .e 261641 .e))))) 261642 (.n (.n (.n (.n (.n (.n .e 261643 .e) 261646 .e) 261647 (.n .e 261662 .e)) 261663 (.n (.n .e 261694 .e) 261695 (.n .e 261758 .e))) 261759 (.n (.n (.n (.n .e 261886 .e) 261887 .e) 262143 (.n .e 523776 .e)) 523777 (.n (.n .e 523778 .e) 523779 (.n .e 523782 .e)))) 523783 (.n (.n (.n (.n (.n .e 523784 .e) 523785 .e) 523786 (.n .e 523787 .e)) 523790 (.n (.n .e 523791 .e) 523806 (.n .e 523807 .e))) 523838 (.n (.n (.n .e 523839 .e) 523902 (.n .e 523903 .e)) 524030 (.n (.n .e 524031 .e) 524287 (.n .e 1048575 .e))))))))) [[0, 1, 2, 3, 6, 7, 8, 9, 10, 11, 14, 15, 30, 31, 62, 63, 126, 127, 254, 255, 511, 512, 513, 514, 515, 518, 519, 520, 521, 522, 523, 526, 527, 542, 543, 574, 575, 638, 639, 766], [767, 1023, 1024, 1025, 1026, 1027, 1030, 1031, 1032, 1033, 1034, 1035, 1038, 1039, 1054, 1055, 1086, 1087, 1150, 1151, 1278, 1279, 1535, 1536, 1537, 1538, 1539, 1542, 1543, 1544, 1545, 1546, 1547, 1550, 1551, 1566, 1567, 1598, 1599, 1662], [1663, 1790, 1791, 2047, 3072, 3073, 3074, 3075, 3078, 3079, 3080, 3081, 3082, 3083, 3086, 3087, 3102, 3103, 3134, 3135, 3198, 3199, 3326, 3327, 3583, 3584, 3585, 3586, 3587, 3590, 3591, 3592, 3593, 3594, 3595, 3598, 3599, 3614, 3615, 3646], [3647, 3710, 3711, 3838, 3839, 4095, 4096, 4097, 4098, 4099, 4102, 4103, 4104, 4105, 4106, 4107, 4110, 4111, 4126, 4127, 4158, 4159, 4222, 4223, 4350, 4351, 4607, 4608, 4609, 4610, 4611, 4614, 4615, 4616, 4617, 4618, 4619, 4622, 4623, 4638], [4639, 4670, 4671, 4734, 4735, 4862, 4863, 5119, 5120, 5121, 5122, 5123, 5126, 5127, 5128, 5129, 5130, 5131, 5134, 5135, 5150, 5151, 5182, 5183, 5246, 5247, 5374, 5375, 5631, 5632, 5633, 5634, 5635, 5638, 5639, 5640, 5641, 5642, 5643, 5646], [5647, 5662, 5663, 5694, 5695, 5758, 5759, 5886, 5887, 6143, 7168, 7169, 7170, 7171, 7174, 7175, 7176, 7177, 7178, 7179, 7182, 7183, 7198, 7199, 7230, 7231, 7294, 7295, 7422, 7423, 7679, 7680, 7681, 7682, 7683, 7686, 7687, 7688, 7689, 7690], [7691, 7694, 7695, 7710, 7711, 7742, 7743, 7806, 7807, 7934, 7935, 8191, 12288, 12289, 12290, 12291, 12294, 12295, 12296, 12297, 12298, 12299, 12302, 12303, 12318, 12319, 12350, 12351, 12414, 12415, 12542, 12543, 12799, 12800, 12801, 12802, 12803, 12806, 12807, 12808], [12809, 12810, 12811, 12814, 12815, 12830, 12831, 12862, 12863, 12926, 12927, 13054, 13055, 13311, 13312, 13313, 13314, 13315, 13318, 13319, 13320, 13321, 13322, 13323, 13326, 13327, 13342, 13343, 13374, 13375, 13438, 13439, 13566, 13567, 13823, 13824, 13825, 13826, 13827, 13830], [13831, 13832, 13833, 13834, 13835, 13838, 13839, 13854, 13855, 13886, 13887, 13950, 13951, 14078, 14079, 14335, 15360, 15361, 15362, 15363, 15366, 15367, 15368, 15369, 15370, 15371, 15374, 15375, 15390, 15391, 15422, 15423, 15486, 15487, 15614, 15615, 15871, 15872, 15873, 15874], [15875, 15878, 15879, 15880, 15881, 15882, 15883, 15886, 15887, 15902, 15903, 15934, 15935, 15998, 15999, 16126, 16127, 16383, 31744, 31745, 31746, 31747, 31750, 31751, 31752, 31753, 31754, 31755, 31758, 31759, 31774, 31775, 31806, 31807, 31870, 31871, 31998, 31999, 32255, 32256], [32257, 32258, 32259, 32262, 32263, 32264, 32265, 32266, 32267, 32270, 32271, 32286, 32287, 32318, 32319, 32382, 32383, 32510, 32511, 32767, 64512, 64513, 64514, 64515, 64518, 64519, 64520, 64521, 64522, 64523, 64526, 64527, 64542, 64543, 64574, 64575, 64638, 64639, 64766, 64767], [65023, 65024, 65025, 65026, 65027, 65030, 65031, 65032, 65033, 65034, 65035, 65038, 65039, 65054, 65055, 65086, 65087, 65150, 65151, 65278, 65279, 65535, 130048, 130049, 130050, 130051, 130054, 130055, 130056, 130057, 130058, 130059, 130062, 130063, 130078, 130079, 130110, 130111, 130174, 130175], [130302, 130303, 130559, 130560, 130561, 130562, 130563, 130566, 130567, 130568, 130569, 130570, 130571, 130574, 130575, 130590, 130591, 130622, 130623, 130686, 130687, 130814, 130815, 131071, 261120, 261121, 261122, 261123, 261126, 261127, 261128, 261129, 261130, 261131, 261134, 261135, 261150, 261151, 261182, 261183], [261246, 261247, 261374, 261375, 261631, 261632, 261633, 261634, 261635, 261638, 261639, 261640, 261641, 261642, 261643, 261646, 261647, 261662, 261663, 261694, 261695, 261758, 261759, 261886, 261887, 262143, 523776, 523777, 523778, 523779, 523782, 523783, 523784, 523785, 523786, 523787, 523790, 523791, 523806, 523807], [523838, 523839, 523902, 523903, 524030, 524031, 524287, 1048575]] (mk 154 [(2, (rf 2 0)), (8, (ow 48)), (11, (di ((i_19 : Nat) : Int))), (131, (db (decide (((i_19 + 1 : Nat) : Int) < ((t_1.l.length : Nat) : Int))))), (134, (ow 48)), (135, (rf 2 2)), (136, (dt (.sl 14 (t_1.l.map encPlace)))), (137, (di ((i_19 : Nat) : Int))), (138, (dt (.ptr [(I x_23.k), (I x_23.b), (.str x_23.z), (I x_23.r.c), (I x_23.r.pl), (I x_23.r.wo), (I x_23.r.dr), (I x_23.r.lo), (I x_23.r.fo), (I x_23.r.ag), (I x_23.r.af), (I x_23.r.aw), (I x_23.r.ca), (I x_23.r.po)]))), (139, (dt (.ptr [(I x_23.r.c), (I x_23.r.pl), (I x_23.r.wo), (I x_23.r.dr), (I x_23.r.lo), (I x_23.r.fo), (I x_23.r.ag), (I x_23.r.af), (I x_23.r.aw), (I x_23.r.ca), (I x_23.r.po)]))), (140, (dt (.ptr [(I x_23.r.c), (I x_23.r.pl), (I x_23.r.wo), (I x_23.r.dr), (I x_23.r.lo), (I x_23.r.fo), (I x_23.r.ag), (I x_23.r.af), (I x_23.r.aw), (I x_23.r.ca), (I x_23.r.po)]))), (141, (di x_23.r.c)), (142, (di (mget m_18 x_23.r.c))), (143, (ow 48)), (144, (rf 2 2)), (145, (dt (.sl 14 (t_1.l.map encPlace)))), (146, (di ((i_19 : Nat) : Int))), (147, (di ((i_19 + 1 : Nat) : Int))), (148, (dt (.ptr [(I x_28.k), (I x_28.b), (.str x_28.z), (I x_28.r.c), (I x_28.r.pl), (I x_28.r.wo), (I x_28.r.dr), (I x_28.r.lo), (I x_28.r.fo), (I x_28.r.ag), (I x_28.r.af), (I x_28.r.aw), (I x_28.r.ca), (I x_28.r.po)]))), (149, (dt (.ptr [(I x_28.r.c), (I x_28.r.pl), (I x_28.r.wo), (I x_28.r.dr), (I x_28.r.lo), (I x_28.r.fo), (I x_28.r.ag), (I x_28.r.af), (I x_28.r.aw), (I x_28.r.ca), (I x_28.r.po)]))), (150, (dt (.ptr [(I x_28.r.c), (I x_28.r.pl), (I x_28.r.wo), (I x_28.r.dr), (I x_28.r.lo), (I x_28.r.fo), (I x_28.r.ag), (I x_28.r.af), (I x_28.r.aw), (I x_28.r.ca), (I x_28.r.po)]))), (151, (di x_28.r.c)), (152, (di (mget m_18 x_28.r.c))), (153, (db (decide ((mget m_18 x_23.r.c) < (mget m_18 x_28.r.c)))))] [(2, (.var (qTab t_1))), (48, (.map Tryz.prog 3 3 (mapD m_18)))]) (by kernel_rfl) (by decide) (by kernel_rfl) (by kernel_rfl) (by kernel_rfl) (by kernel_rfl) (by kernel_rfl) (by kernel_rfl) (zs (And.intro (by kernel_rfl) (by as_aux_lemma => kernel_rfl)) (zs (And.intro (by kernel_rfl) (by as_aux_lemma => kernel_rfl)) (zs (And.intro (by kernel_rfl) (by as_aux_lemma => kernel_rfl)) (zs (And.intro (by kernel_rfl) (by as_aux_lemma => kernel_rfl)) (zs (And.intro (by kernel_rfl) (by as_aux_lemma => kernel_rfl)) (zs (And.intro (by kernel_rfl) (by as_aux_lemma => kernel_rfl)) (zs (And.intro (by kernel_rfl) (by as_aux_lemma => kernel_rfl)) (zs (And.intro (by kernel_rfl) (by as_aux_lemma => kernel_rfl)) (zs (And.intro (by kernel_rfl) (by as_aux_lemma => kernel_rfl)) (zs (And.intro (by kernel_rfl) (by as_aux_lemma => kernel_rfl)) (zs (And.intro (by kernel_rfl) (by as_aux_lemma => kernel_rfl)) (zs (And.intro (by kernel_rfl) (by as_aux_lemma => kernel_rfl)) (zs (And.intro (by kernel_rfl) (by as_aux_lemma => kernel_rfl)) (zs (And.intro (by kernel_rfl) (by as_aux_lemma => kernel_rfl)) (zs (And.intro (by kernel_rfl) (by as_aux_lemma => kernel_rfl)) zS))))))))))))))) (zs (zc zt zt) (zs (zc zt zt) (zs (zc zt zt) (zs (zc zt zt) (zs (zc zt e24) (zs (zc zt zt) (zs (zc zt zt) (zs (zc zt zt) (zs (zc zt (show (Tryz.prog = Tryz.prog ∧ Tryz.prog.underlying 53 = some (.map 3 3) ∧ Tryz.prog.underlying 3 = some (.int .i64) ∧ (Lit.int .i64 x_23.r.c).wf = true ∧ lookSide Tryz.prog 3 (mapD m_18) (.int .i64 x_23.r.c) (I (mget m_18 x_23.r.c))) from ⟨rfl, by kernel_rfl, by kernel_rfl, wf_i64 c27.1 c27.2, by kernel_rfl, by kernel_rfl, mapD_get _ _⟩)) (zs (zc zt zt) (zs (zc zt zt) (zs (zc zt zt) (zs (zc zt zt) (zs (zc zt c21) (zs (zc zt e29) (zs (zc zt zt) (zs (zc zt zt) (zs (zc zt zt) (zs (zc zt (show (Tryz.prog = Tryz.prog ∧ Tryz.prog.underlying 53 = some (.map 3 3) ∧ Tryz.prog.underlying 3 = some (.int .i64) ∧ (Lit.int .i64 x_28.r.c).wf = true ∧ lookSide Tryz.prog 3 (mapD m_18) (.int .i64 x_28.r.c) (I (mget m_18 x_28.r.c))) from ⟨rfl, by kernel_rfl, by kernel_rfl, wf_i64 c32.1 c32.2, by kernel_rfl, by kernel_rfl, mapD_get _ _⟩)) (zs (zc zt zt) zS)))))))))))))))))))) (by kernel_rfl) ?_
  refine T_turn [] [2, 8, 11, 153] [] (mk 154 [(2, (rf 2 0)), (8, (ow 48)), (11, (di ((i_19 : Nat) : Int))), (153, (db (decide ((mget m_18 x_23.r.c) < (mget m_18 x_28.r.c)))))] [(2, (.var (qTab t_1))), (48, (.map Tryz.prog 3 3 (mapD m_18)))]) (by kernel_rfl) ?_
  refine T_cond (decide ((mget m_18 x_23.r.c) < (mget m_18 x_28.r.c))) (by kernel_rfl) (fun b33 => ?_) (fun b33 => ?_)
  replace h := ite_t b33 h
  refine T_reg [] [4] [2, 48] (mk 154 [(4, (db false))] []) _ (by kernel_rfl) (z2 zt) ?_
  refine T_ret ?_
  replace h := up_inv h hy1
  obtain rfl := some_inv h
  exact ret_here [(db false)] (by kernel_rfl) (.inl rfl)
  replace h := ite_f b33 h
  refine T_skip ?_
  exact T_regJ [zn, (zd (I ((i_19 + 1 : Nat) : Int)))] [] [2, 8, 11] [] [2, 48] _ _ (by kernel_rfl) (z3 (zc c21 (z2 zt))) (fun s hs => Exists.intro (i_19 + 1) (And.intro h hs))
  replace h := ite_f b22 h
  refine T_exit ?_
  replace h := up_inv h hy1
  exact Exists.intro () (And.intro h (arr [] [] [2, 48] [] (by kernel_rfl)))
  refine T_reg [] [2, 6, 8, 10] [] (mk 154 [(2, (rf 2 0)), (6, (dt (.sl 1 (r_11.2.1.map elI)))), (8, (ow 48)), (10, (di 0))] [(2, (.var (qTab t_1))), (48, (.map Tryz.prog 3 3 (mapD m_17)))]) _ (by kernel_rfl) (z2 zt) ?_
  refine T_block ?_
  refine T_arr [] [2, 6, 8, 10] [] [2, 48] _ (by kernel_rfl) (T_loopO (σ := Nat × (List (Int × Int))) (fun ((i_34, m_35) : Nat × (List (Int × Int))) => (mk 154 [(2, (rf 2 0)), (6, (dt (.sl 1 (r_11.2.1.map elI)))), (8, (ow 48)), (10, (di ((i_34 : Nat) : Int)))] [(2, (.var (qTab t_1))), (48, (.map Tryz.prog 3 3 (mapD m_35)))])) (g_law42_PrizesMoves_l6 r_11 t_1) (0, m_17) h (fun v y1 hy1 h => ?_))
  obtain ⟨i_34, m_35⟩ := v
  refine T_seq ?_
  refine T_reg [zn, zn, (zd (I ((r_11.2.1.length : Nat) : Int)))] [2, 6, 8, 10, 86] [] (mk 154 [(2, (rf 2 0)), (6, (dt (.sl 1 (r_11.2.1.map elI)))), (8, (ow 48)), (10, (di ((i_34 : Nat) : Int))), (86, (db (decide (((i_34 : Nat) : Int) < ((r_11.2.1.length : Nat) : Int)))))] [(2, (.var (qTab t_1))), (48, (.map Tryz.prog 3 3 (mapD m_35)))]) _ (by kernel_rfl) (z5 (zc (len_s elI r_11.2.1) (z2 zt))) ?_
  refine T_cond (decide (((i_34 : Nat) : Int) < ((r_11.2.1.length : Nat) : Int))) (by kernel_rfl) (fun b38 => ?_) (fun b38 => ?_)
  replace h := ite_t b38 h
  refine T_skip ?_
  refine T_seq ?_
  refine T_block ?_
  refine T_seq ?_
  refine T_seqJ (α := Bool) (fun (v_39 : Bool) => (mk 154 [(2, (rf 2 0)), (6, (dt (.sl 1 (r_11.2.1.map elI)))), (8, (ow 48)), (10, (di ((i_34 : Nat) : Int))), (120, (db (v_39)))] [(2, (.var (qTab t_1))), (48, (.map Tryz.prog 3 3 (mapD m_35)))])) (fun (v_39 : Bool) => g_law42_PrizesMoves_j7 r_11 i_34 m_35 t_1 v_39 = some y1) (fun v_39 h => ?_) ?_
  refine T_cond (v_39) (by kernel_rfl) (fun b40 => ?_) (fun b40 => ?_)
  replace h := ite_t b40 h
  refine T_reg [] [4] [2, 48] (mk 154 [(4, (db false))] []) _ (by kernel_rfl) (z2 zt) ?_
  refine T_ret ?_
  replace h := up_inv h hy1
  obtain rfl := some_inv h
  exact ret_here [(db false)] (by kernel_rfl) (.inl rfl)
  replace h := ite_f b40 h
  refine T_skip ?_
  obtain ⟨x_41, e42, e43, e44, h⟩ := gn_inv elI h
  refine T_parts ?_
  refine TL_part 5 [zn, zn, zn, (zd (I x_41))] (mk 154 [(2, (rf 2 0)), (6, (dt (.sl 1 (r_11.2.1.map elI)))), (8, (ow 48)), (10, (di ((i_34 : Nat) : Int))), (120, (db (v_39))), (121, (ow 48)), (122, (dt (.sl 1 (r_11.2.1.map elI)))), (123, (di ((i_34 : Nat) : Int))), (124, (dt (.ptr [(I x_41)]))), (125, (di x_41))] [(2, (.var (qTab t_1))), (48, (.map Tryz.prog 3 3 (mapD m_35)))]) _ (by kernel_rfl) (z7 (zc e42 (z2 zt))) rfl ?_
  obtain ⟨c45, h⟩ := ckI_in h
  obtain ⟨c46, h⟩ := ckI_in h
  obtain ⟨c47, h⟩ := ck_inv h
  refine TL_mapUpdate 53 3 3 48 _ _ _ m_35 x_41 (-1) rfl rfl (by kernel_rfl) (by kernel_rfl) (by kernel_rfl) (by kernel_rfl) (by kernel_rfl) (by kernel_rfl) (by kernel_rfl) c45 c46 c47 ?_
  refine TL_turn [] [2, 6, 8, 10] [] (mk 154 [(2, (rf 2 0)), (6, (dt (.sl 1 (r_11.2.1.map elI)))), (8, (ow 48)), (10, (di ((i_34 : Nat) : Int)))] [(2, (.var (qTab t_1))), (48, (.map Tryz.prog 3 3 (mapD (mput m_35 x_41 (-1)))))]) (by kernel_rfl) ?_
  refine TL_nilQ ?_
  obtain ⟨c48, h⟩ := ckI_inv h
  exact T_regJ [zn, (zd (I ((i_34 + 1 : Nat) : Int)))] [] [2, 6, 8, 10] [] [2, 48] _ _ (by kernel_rfl) (z3 (zc c48 (z2 zt))) (fun s hs => Exists.intro (i_34 + 1, (mput m_35 x_41 (-1))) (And.intro h hs))
  refine T_arr [] [2, 6, 8, 10, 86] [] [2, 48] (mk 154 [(2, (rf 2 0)), (6, (dt (.sl 1 (r_11.2.1.map elI)))), (8, (ow 48)), (10, (di ((i_34 : Nat) : Int))), (86, (db (decide (((i_34 : Nat) : Int) < ((r_11.2.1.length : Nat) : Int)))))] [(2, (.var (qTab t_1))), (48, (.map Tryz.prog 3 3 (mapD m_35)))]) (by kernel_rfl) ?_
  obtain ⟨x_49, e50, e51, e52, h⟩ := gn_inv elI h
  obtain ⟨r_53, e54, h⟩ := bd_inv h
  rcases Bool.eq_false_or_eq_true (decide (r_53 < 0)) with b55 | b55
  replace h := ite_t b55 h
  refine T_arr [] [2, 6, 8, 10, 86] [] [2, 48] (mk 154 [(2, (rf 2 0)), (6, (dt (.sl 1 (r_11.2.1.map elI)))), (8, (ow 48)), (10, (di ((i_34 : Nat) : Int))), (86, (db (decide (((i_34 : Nat) : Int) < ((r_11.2.1.length : Nat) : Int)))))] [(2, (.var (qTab t_1))), (48, (.map Tryz.prog 3 3 (mapD m_35)))]) (by kernel_rfl) ?_
  refine T_anyV [{}, {}, {}, { h := zd (I x_49) }, {}, { h := zd (I r_53) }, {}, {}, { h := zg }, { h := zg }, { h := zg }, { h := zg }, { h := zg }, { h := zg }, { h := zg }, { h := zd (B true) }, {}, { h := zg }, { h := zg }, { h := zg }, {}, {}, {}, {}, {}, {}, {}, {}, {}, {}, { h := zg }, { h := zd (B true) }] _ (mk 154 [(2, (rf 2 0)), (6, (dt (.sl 1 (r_11.2.1.map elI)))), (8, (ow 48)), (10, (di ((i_34 : Nat) : Int))), (86, (db (decide (((i_34 : Nat) : Int) < ((r_11.2.1.length : Nat) : Int)))))] [(2, (.var (qTab t_1))), (48, (.map Tryz.prog 3 3 (mapD m_35)))]) [(89, [(0, (.agg (qTab t_1)))]), (90, [(1, (dt (.sl 1 (r_11.2.1.map elI))))]), (91, [(2, (di ((i_34 : Nat) : Int)))]), (92, [(3, (dt (.ptr [(I x_49)])))]), (93, [(4, (di x_49))]), (94, [(5, (di r_53))]), (95, [(6, (db (decide (r_53 < 0))))]), (96, [(7, (db (decide (r_53 < 0))))]), (97, [(8, (dt (.tup [])))]), (98, [(9, (dt (.tup [])))]), (99, [(10, (dt (.tup [])))]), (100, [(11, (dt (.tup [])))]), (101, [(12, (dt (.tup [])))]), (102, [(13, (dt (.tup [])))]), (103, [(14, (dt (.tup [])))]), (104, [(15, (db true))]), (105, [(16, (db true))]), (106, [(17, (dt (.tup [])))]), (107, [(18, (dt (.tup [])))]), (108, [(19, (dt (.tup [])))]), (109, [(20, (dt (.tup [])))]), (110, [(21, (dt (.tup [])))]), (111, [(22, (dt (.tup [])))]), (112, [(23, (dt (.tup [])))]), (113, [(24, (dt (.tup [])))]), (114, [(25, (dt (.tup [])))]), (115, [(26, (dt (.tup [])))]), (116, [(27, (dt (.tup [])))]), (117, [(28, (dt (.tup [])))]), (118, [(29, (dt (.tup [])))]), (119, [(30, (dt (.tup [])))]), (120, [(31, (db true))])] [] [2, 48] 32 [0, 0, 0, 6, 8, 17, 32, 96, 128, 128, 128, 1664, 2176, 4480, 8320, 16512, 32896, 65536, 196608, 327680, 524288, 524288, 2621440, 5767168, 8912896, 524288, 524288, 101187584, 134742016, 285736960, 537460736, 1073807360] (.n (.n (.n (.n (.n (.n (.n .e 0 .e) 1 .e) 2 (.n (.n .e 3 .e) 4 .e)) 5 (.n (.n (.n .e 6 .e) 7 .e) 14 (.n .e 15 .e))) 30 (.n (.n (.n (.n .e 31 .e) 63 .e) 127 (.n .e 255 .e)) 511 (.n (.n (.n .e 767 .e) 1023 .e) 1279 (.n .e 1535 .e)))) 1791 (.n (.n (.n (.n (.n .e 2047 .e) 3839 .e) 4095 (.n (.n .e 7935 .e) 8191 .e)) 16383 (.n (.n (.n .e 32767 .e) 65535 .e) 131071 (.n .e 262143 .e))) 524287 (.n (.n (.n (.n .e 1048575 .e) 2097151 .e) 3145727 (.n .e 4194303 .e)) 7340031 (.n (.n (.n .e 8388607 .e) 16777215 .e) 33554431 (.n .e 34603007 .e))))) 35651583 (.n (.n (.n (.n (.n (.n .e 36700159 .e) 37748735 .e) 40894463 (.n (.n .e 41943039 .e) 50331647 .e)) 67108863 (.n (.n (.n .e 68157439 .e) 69206015 .e) 70254591 (.n .e 71303167 .e))) 74448895 (.n (.n (.n (.n .e 75497471 .e) 83886079 .e) 100663295 (.n .e 101711871 .e)) 102760447 (.n (.n (.n .e 103809023 .e) 104857599 .e) 108003327 (.n .e 109051903 .e)))) 117440511 (.n (.n (.n (.n (.n .e 134217727 .e) 235929599 .e) 236978175 (.n (.n .e 238026751 .e) 239075327 .e)) 242221055 (.n (.n (.n .e 243269631 .e) 251658239 .e) 268435455 (.n .e 504365055 .e))) 505413631 (.n (.n (.n (.n .e 506462207 .e) 507510783 .e) 510656511 (.n .e 511705087 .e)) 520093695 (.n (.n (.n .e 536870911 .e) 1073741823 .e) 2147483647 (.n .e 4294967295 .e)))))) [[0, 1, 2, 3, 4, 5, 6, 7, 14, 15, 30, 31, 63, 127, 255, 511, 767, 1023, 1279, 1535, 1791, 2047, 3839, 4095, 7935, 8191, 16383, 32767, 65535, 131071, 262143, 524287, 1048575, 2097151, 3145727, 4194303, 7340031, 8388607, 16777215, 33554431], [34603007, 35651583, 36700159, 37748735, 40894463, 41943039, 50331647, 67108863, 68157439, 69206015, 70254591, 71303167, 74448895, 75497471, 83886079, 100663295, 101711871, 102760447, 103809023, 104857599, 108003327, 109051903, 117440511, 134217727, 235929599, 236978175, 238026751, 239075327, 242221055, 243269631, 251658239, 268435455, 504365055, 505413631, 506462207, 507510783, 510656511, 511705087, 520093695, 536870911], [1073741823, 2147483647, 4294967295]] (mk 154 [(2, (rf 2 0)), (6, (dt (.sl 1 (r_11.2.1.map elI)))), (8, (ow 48)), (10, (di ((i_34 : Nat) : Int))), (86, (db (decide (((i_34 : Nat) : Int) < ((r_11.2.1.length : Nat) : Int))))), (89, (.agg (qTab t_1))), (90, (dt (.sl 1 (r_11.2.1.map elI)))), (91, (di ((i_34 : Nat) : Int))), (92, (dt (.ptr [(I x_49)]))), (93, (di x_49)), (94, (di r_53)), (95, (db (decide (r_53 < 0)))), (96, (db (decide (r_53 < 0)))), (97, (dt (.tup []))), (98, (dt (.tup []))), (99, (dt (.tup []))), (100, (dt (.tup []))), (101, (dt (.tup []))), (102, (dt (.tup []))), (103, (dt (.tup []))), (104, (db true)), (105, (db true)), (106, (dt (.tup []))), (107, (dt (.tup []))), (108, (dt (.tup []))), (109, (dt (.tup []))), (110, (dt (.tup []))), (111, (dt (.tup []))), (112, (dt (.tup []))), (113, (dt (.tup []))), (114, (dt (.tup []))), (115, (dt (.tup []))), (116, (dt (.tup []))), (117, (dt (.tup []))), (118, (dt (.tup []))), (119, (dt (.tup []))), (120, (db true))] [(2, (.var (qTab t_1))), (48, (.map Tryz.prog 3 3 (mapD m_35)))]) (by kernel_rfl) (by decide) (by kernel_rfl) (by kernel_rfl) (by kernel_rfl) (by kernel_rfl) (by kernel_rfl) (by kernel_rfl) (zs (And.intro (by kernel_rfl) (by as_aux_lemma => kernel_rfl)) (zs (And.intro (by kernel_rfl) (by as_aux_lemma => kernel_rfl)) (zs (And.intro (by kernel_rfl) (by as_aux_lemma => kernel_rfl)) zS))) (zs (zc zt zt) (zs (zc zt zt) (zs (zc zt zt) (zs (zc zt e50) (zs (zc zt zt) (zs (zc zt (g_law42_index_ret e54)) (zs (zc zt zt) (zs (zc zt zt) (zs (gd_tf b55) (zs (gd_tf b55) (zs (gd_tf b55) (zs (gd_tf b55) (zs (gd_tf b55) (zs (gd_tf b55) (zs (gd_tf b55) (zs (zc zt b55) (zs (zc zt zt) (zs (gd_tf (rfl : true = true)) (zs (gd_tf (rfl : true = true)) (zs (gd_tf (rfl : true = true)) (zs zt (zs zt (zs zt (zs zt (zs zt (zs zt (zs zt (zs zt (zs zt (zs zt (zs (gd_tf (rfl : true = true)) (zs (zc zt (rfl : true = true)) zS)))))))))))))))))))))))))))))))) (by kernel_rfl) ?_
  exact Exists.intro true (And.intro h (arr [] [2, 6, 8, 10, 120] [] [2, 48] (by kernel_rfl)))
  replace h := ite_f b55 h
  refine T_arr [] [2, 6, 8, 10, 86] [] [2, 48] (mk 154 [(2, (rf 2 0)), (6, (dt (.sl 1 (r_11.2.1.map elI)))), (8, (ow 48)), (10, (di ((i_34 : Nat) : Int))), (86, (db (decide (((i_34 : Nat) : Int) < ((r_11.2.1.length : Nat) : Int)))))] [(2, (.var (qTab t_1))), (48, (.map Tryz.prog 3 3 (mapD m_35)))]) (by kernel_rfl) ?_
  obtain ⟨c56, h⟩ := ckI_in h
  rcases Bool.eq_false_or_eq_true ((mget m_35 x_49) != 0) with b57 | b57
  replace h := ite_t b57 h
  refine T_arr [] [2, 6, 8, 10, 86] [] [2, 48] (mk 154 [(2, (rf 2 0)), (6, (dt (.sl 1 (r_11.2.1.map elI)))), (8, (ow 48)), (10, (di ((i_34 : Nat) : Int))), (86, (db (decide (((i_34 : Nat) : Int) < ((r_11.2.1.length : Nat) : Int)))))] [(2, (.var (qTab t_1))), (48, (.map Tryz.prog 3 3 (mapD m_35)))]) (by kernel_rfl) ?_
  refine T_anyV [{}, {}, {}, { h := zd (I x_49) }, {}, { h := zd (I r_53) }, {}, {}, {}, {}, {}, { h := zd (I x_49) }, {}, { h := zd (I (mget m_35 x_49)) }, {}, { h := zd (B false) }, {}, { h := zg }, { h := zg }, { h := zg }, {}, {}, {}, {}, {}, {}, {}, {}, {}, {}, { h := zg }, { h := zd (B true) }] _ (mk 154 [(2, (rf 2 0)), (6, (dt (.sl 1 (r_11.2.1.map elI)))), (8, (ow 48)), (10, (di ((i_34 : Nat) : Int))), (86, (db (decide (((i_34 : Nat) : Int) < ((r_11.2.1.length : Nat) : Int)))))] [(2, (.var (qTab t_1))), (48, (.map Tryz.prog 3 3 (mapD m_35)))]) [(89, [(0, (.agg (qTab t_1)))]), (90, [(1, (dt (.sl 1 (r_11.2.1.map elI))))]), (91, [(2, (di ((i_34 : Nat) : Int)))]), (92, [(3, (dt (.ptr [(I x_49)])))]), (93, [(4, (di x_49))]), (94, [(5, (di r_53))]), (95, [(6, (db (decide (r_53 < 0))))]), (96, [(7, (db (decide (r_53 < 0))))]), (97, [(8, (ow 48))]), (98, [(9, (dt (.sl 1 (r_11.2.1.map elI))))]), (99, [(10, (di ((i_34 : Nat) : Int)))]), (100, [(11, (dt (.ptr [(I x_49)])))]), (101, [(12, (di x_49))]), (102, [(13, (di (mget m_35 x_49)))]), (103, [(14, (db ((mget m_35 x_49) != 0)))]), (104, [(15, (db ((mget m_35 x_49) != 0)))]), (105, [(16, (db ((mget m_35 x_49) != 0)))]), (106, [(17, (dt (.tup [])))]), (107, [(18, (dt (.tup [])))]), (108, [(19, (dt (.tup [])))]), (109, [(20, (dt (.tup [])))]), (110, [(21, (dt (.tup [])))]), (111, [(22, (dt (.tup [])))]), (112, [(23, (dt (.tup [])))]), (113, [(24, (dt (.tup [])))]), (114, [(25, (dt (.tup [])))]), (115, [(26, (dt (.tup [])))]), (116, [(27, (dt (.tup [])))]), (117, [(28, (dt (.tup [])))]), (118, [(29, (dt (.tup [])))]), (119, [(30, (dt (.tup [])))]), (120, [(31, (db true))])] [] [2, 48] 32 [0, 0, 0, 6, 8, 17, 32, 96, 128, 128, 128, 1664, 2176, 4480, 8320, 16512, 32896, 65536, 196608, 327680, 524288, 524288, 2621440, 5767168, 8912896, 524288, 524288, 101187584, 134742016, 285736960, 537460736, 1073807360] (.n (.n (.n (.n (.n (.n (.n .e 0 .e) 1 .e) 2 (.n (.n .e 3 .e) 4 .e)) 5 (.n (.n (.n .e 6 .e) 7 .e) 14 (.n .e 15 .e))) 30 (.n (.n (.n (.n .e 31 .e) 63 .e) 127 (.n .e 255 .e)) 511 (.n (.n (.n .e 767 .e) 1023 .e) 1279 (.n .e 1535 .e)))) 1791 (.n (.n (.n (.n (.n .e 2047 .e) 3839 .e) 4095 (.n (.n .e 7935 .e) 8191 .e)) 16383 (.n (.n (.n .e 32767 .e) 65535 .e) 131071 (.n .e 262143 .e))) 524287 (.n (.n (.n (.n .e 1048575 .e) 2097151 .e) 3145727 (.n .e 4194303 .e)) 7340031 (.n (.n (.n .e 8388607 .e) 16777215 .e) 33554431 (.n .e 34603007 .e))))) 35651583 (.n (.n (.n (.n (.n (.n .e 36700159 .e) 37748735 .e) 40894463 (.n (.n .e 41943039 .e) 50331647 .e)) 67108863 (.n (.n (.n .e 68157439 .e) 69206015 .e) 70254591 (.n .e 71303167 .e))) 74448895 (.n (.n (.n (.n .e 75497471 .e) 83886079 .e) 100663295 (.n .e 101711871 .e)) 102760447 (.n (.n (.n .e 103809023 .e) 104857599 .e) 108003327 (.n .e 109051903 .e)))) 117440511 (.n (.n (.n (.n (.n .e 134217727 .e) 235929599 .e) 236978175 (.n (.n .e 238026751 .e) 239075327 .e)) 242221055 (.n (.n (.n .e 243269631 .e) 251658239 .e) 268435455 (.n .e 504365055 .e))) 505413631 (.n (.n (.n (.n .e 506462207 .e) 507510783 .e) 510656511 (.n .e 511705087 .e)) 520093695 (.n (.n (.n .e 536870911 .e) 1073741823 .e) 2147483647 (.n .e 4294967295 .e)))))) [[0, 1, 2, 3, 4, 5, 6, 7, 14, 15, 30, 31, 63, 127, 255, 511, 767, 1023, 1279, 1535, 1791, 2047, 3839, 4095, 7935, 8191, 16383, 32767, 65535, 131071, 262143, 524287, 1048575, 2097151, 3145727, 4194303, 7340031, 8388607, 16777215, 33554431], [34603007, 35651583, 36700159, 37748735, 40894463, 41943039, 50331647, 67108863, 68157439, 69206015, 70254591, 71303167, 74448895, 75497471, 83886079, 100663295, 101711871, 102760447, 103809023, 104857599, 108003327, 109051903, 117440511, 134217727, 235929599, 236978175, 238026751, 239075327, 242221055, 243269631, 251658239, 268435455, 504365055, 505413631, 506462207, 507510783, 510656511, 511705087, 520093695, 536870911], [1073741823, 2147483647, 4294967295]] (mk 154 [(2, (rf 2 0)), (6, (dt (.sl 1 (r_11.2.1.map elI)))), (8, (ow 48)), (10, (di ((i_34 : Nat) : Int))), (86, (db (decide (((i_34 : Nat) : Int) < ((r_11.2.1.length : Nat) : Int))))), (89, (.agg (qTab t_1))), (90, (dt (.sl 1 (r_11.2.1.map elI)))), (91, (di ((i_34 : Nat) : Int))), (92, (dt (.ptr [(I x_49)]))), (93, (di x_49)), (94, (di r_53)), (95, (db (decide (r_53 < 0)))), (96, (db (decide (r_53 < 0)))), (97, (ow 48)), (98, (dt (.sl 1 (r_11.2.1.map elI)))), (99, (di ((i_34 : Nat) : Int))), (100, (dt (.ptr [(I x_49)]))), (101, (di x_49)), (102, (di (mget m_35 x_49))), (103, (db ((mget m_35 x_49) != 0))), (104, (db ((mget m_35 x_49) != 0))), (105, (db ((mget m_35 x_49) != 0))), (106, (dt (.tup []))), (107, (dt (.tup []))), (108, (dt (.tup []))), (109, (dt (.tup []))), (110, (dt (.tup []))), (111, (dt (.tup []))), (112, (dt (.tup []))), (113, (dt (.tup []))), (114, (dt (.tup []))), (115, (dt (.tup []))), (116, (dt (.tup []))), (117, (dt (.tup []))), (118, (dt (.tup []))), (119, (dt (.tup []))), (120, (db true))] [(2, (.var (qTab t_1))), (48, (.map Tryz.prog 3 3 (mapD m_35)))]) (by kernel_rfl) (by decide) (by kernel_rfl) (by kernel_rfl) (by kernel_rfl) (by kernel_rfl) (by kernel_rfl) (by kernel_rfl) (zs (And.intro (by kernel_rfl) (by as_aux_lemma => kernel_rfl)) (zs (And.intro (by kernel_rfl) (by as_aux_lemma => kernel_rfl)) (zs (And.intro (by kernel_rfl) (by as_aux_lemma => kernel_rfl)) zS))) (zs (zc zt zt) (zs (zc zt zt) (zs (zc zt zt) (zs (zc zt e50) (zs (zc zt zt) (zs (zc zt (g_law42_index_ret e54)) (zs (zc zt zt) (zs (zc zt zt) (zs (zc (gd_ff b55) zt) (zs (zc (gd_ff b55) zt) (zs (zc (gd_ff b55) zt) (zs (zc (gd_ff b55) e50) (zs (zc (gd_ff b55) zt) (zs (zc (gd_ff b55) (show (Tryz.prog = Tryz.prog ∧ Tryz.prog.underlying 53 = some (.map 3 3) ∧ Tryz.prog.underlying 3 = some (.int .i64) ∧ (Lit.int .i64 x_49).wf = true ∧ lookSide Tryz.prog 3 (mapD m_35) (.int .i64 x_49) (I (mget m_35 x_49))) from ⟨rfl, by kernel_rfl, by kernel_rfl, wf_i64 c56.1 c56.2, by kernel_rfl, by kernel_rfl, mapD_get _ _⟩)) (zs (zc (gd_ff b55) zt) (zs (zc zt b55) (zs (zc zt zt) (zs (gd_tf b57) (zs (gd_tf b57) (zs (gd_tf b57) (zs zt (zs zt (zs zt (zs zt (zs zt (zs zt (zs zt (zs zt (zs zt (zs zt (zs (gd_tf b57) (zs (zc zt b57) zS)))))))))))))))))))))))))))))))) (by kernel_rfl) ?_
  exact Exists.intro true (And.intro h (arr [] [2, 6, 8, 10, 120] [] [2, 48] (by kernel_rfl)))
  replace h := ite_f b57 h
  refine T_arr [] [2, 6, 8, 10, 86] [] [2, 48] (mk 154 [(2, (rf 2 0)), (6, (dt (.sl 1 (r_11.2.1.map elI)))), (8, (ow 48)), (10, (di ((i_34 : Nat) : Int))), (86, (db (decide (((i_34 : Nat) : Int) < ((r_11.2.1.length : Nat) : Int)))))] [(2, (.var (qTab t_1))), (48, (.map Tryz.prog 3 3 (mapD m_35)))]) (by kernel_rfl) ?_
  rcases Bool.eq_false_or_eq_true (decide (((i_34 : Nat) : Int) > 0)) with b58 | b58
  replace h := ite_t b58 h
  refine T_arr [] [2, 6, 8, 10, 86] [] [2, 48] (mk 154 [(2, (rf 2 0)), (6, (dt (.sl 1 (r_11.2.1.map elI)))), (8, (ow 48)), (10, (di ((i_34 : Nat) : Int))), (86, (db (decide (((i_34 : Nat) : Int) < ((r_11.2.1.length : Nat) : Int)))))] [(2, (.var (qTab t_1))), (48, (.map Tryz.prog 3 3 (mapD m_35)))]) (by kernel_rfl) ?_
  obtain ⟨c59, h⟩ := ckI_inv h
  obtain ⟨x_60, e61, e62, e63, h⟩ := gt_inv elI h
  refine T_anyV [{}, {}, {}, { h := zd (I x_49) }, {}, { h := zd (I r_53) }, {}, {}, {}, {}, {}, { h := zd (I x_49) }, {}, { h := zd (I (mget m_35 x_49)) }, {}, { h := zd (B false) }, {}, {}, {}, {}, {}, {}, { h := zd (I (((i_34 : Nat) : Int) - 1)) }, { h := zd (I x_60) }, {}, {}, {}, { h := zd (I x_49) }, {}, {}, { h := zd (B true) }, { h := zd (B false) }] _ (mk 154 [(2, (rf 2 0)), (6, (dt (.sl 1 (r_11.2.1.map elI)))), (8, (ow 48)), (10, (di ((i_34 : Nat) : Int))), (86, (db (decide (((i_34 : Nat) : Int) < ((r_11.2.1.length : Nat) : Int)))))] [(2, (.var (qTab t_1))), (48, (.map Tryz.prog 3 3 (mapD m_35)))]) [(89, [(0, (.agg (qTab t_1)))]), (90, [(1, (dt (.sl 1 (r_11.2.1.map elI))))]), (91, [(2, (di ((i_34 : Nat) : Int)))]), (92, [(3, (dt (.ptr [(I x_49)])))]), (93, [(4, (di x_49))]), (94, [(5, (di r_53))]), (95, [(6, (db (decide (r_53 < 0))))]), (96, [(7, (db (decide (r_53 < 0))))]), (97, [(8, (ow 48))]), (98, [(9, (dt (.sl 1 (r_11.2.1.map elI))))]), (99, [(10, (di ((i_34 : Nat) : Int)))]), (100, [(11, (dt (.ptr [(I x_49)])))]), (101, [(12, (di x_49))]), (102, [(13, (di (mget m_35 x_49)))]), (103, [(14, (db ((mget m_35 x_49) != 0)))]), (104, [(15, (db ((mget m_35 x_49) != 0)))]), (105, [(16, (db ((mget m_35 x_49) != 0)))]), (106, [(17, (di ((i_34 : Nat) : Int)))]), (107, [(18, (db (decide (((i_34 : Nat) : Int) > 0))))]), (108, [(19, (db (decide (((i_34 : Nat) : Int) > 0))))]), (109, [(20, (dt (.sl 1 (r_11.2.1.map elI))))]), (110, [(21, (di ((i_34 : Nat) : Int)))]), (111, [(22, (di (((i_34 : Nat) : Int) - 1)))]), (112, [(23, (dt (.ptr [(I x_60)])))]), (113, [(24, (di x_60))]), (114, [(25, (dt (.sl 1 (r_11.2.1.map elI))))]), (115, [(26, (di ((i_34 : Nat) : Int)))]), (116, [(27, (dt (.ptr [(I x_49)])))]), (117, [(28, (di x_49))]), (118, [(29, (db (decide (x_60 ≥ x_49))))]), (119, [(30, (db (decide (x_60 ≥ x_49))))]), (120, [(31, (db (decide (x_60 ≥ x_49))))])] [] [2, 48] 32 [0, 0, 0, 6, 8, 17, 32, 96, 128, 128, 128, 1664, 2176, 4480, 8320, 16512, 32896, 65536, 196608, 327680, 524288, 524288, 2621440, 5767168, 8912896, 524288, 524288, 101187584, 134742016, 285736960, 537460736, 1073807360] (.n (.n (.n (.n (.n (.n (.n .e 0 .e) 1 .e) 2 (.n (.n .e 3 .e) 4 .e)) 5 (.n (.n (.n .e 6 .e) 7 .e) 14 (.n .e 15 .e))) 30 (.n (.n (.n (.n .e 31 .e) 63 .e) 127 (.n .e 255 .e)) 511 (.n (.n (.n .e 767 .e) 1023 .e) 1279 (.n .e 1535 .e)))) 1791 (.n (.n (.n (.n (.n .e 2047 .e) 3839 .e) 4095 (.n (.n .e 7935 .e) 8191 .e)) 16383 (.n (.n (.n .e 32767 .e) 65535 .e) 131071 (.n .e 262143 .e))) 524287 (.n (.n (.n (.n .e 1048575 .e) 2097151 .e) 3145727 (.n .e 4194303 .e)) 7340031 (.n (.n (.n .e 8388607 .e) 16777215 .e) 33554431 (.n .e 34603007 .e))))) 35651583 (.n (.n (.n (.n (.n (.n .e 36700159 .e) 37748735 .e) 40894463 (.n (.n .e 41943039 .e) 50331647 .e)) 67108863 (.n (.n (.n .e 68157439 .e) 69206015 .e) 70254591 (.n .e 71303167 .e))) 74448895 (.n (.n (.n (.n .e 75497471 .e) 83886079 .e) 100663295 (.n .e 101711871 .e)) 102760447 (.n (.n (.n .e 103809023 .e) 104857599 .e) 108003327 (.n .e 109051903 .e)))) 117440511 (.n (.n (.n (.n (.n .e 134217727 .e) 235929599 .e) 236978175 (.n (.n .e 238026751 .e) 239075327 .e)) 242221055 (.n (.n (.n .e 243269631 .e) 251658239 .e) 268435455 (.n .e 504365055 .e))) 505413631 (.n (.n (.n (.n .e 506462207 .e) 507510783 .e) 510656511 (.n .e 511705087 .e)) 520093695 (.n (.n (.n .e 536870911 .e) 1073741823 .e) 2147483647 (.n .e 4294967295 .e)))))) [[0, 1, 2, 3, 4, 5, 6, 7, 14, 15, 30, 31, 63, 127, 255, 511, 767, 1023, 1279, 1535, 1791, 2047, 3839, 4095, 7935, 8191, 16383, 32767, 65535, 131071, 262143, 524287, 1048575, 2097151, 3145727, 4194303, 7340031, 8388607, 16777215, 33554431], [34603007, 35651583, 36700159, 37748735, 40894463, 41943039, 50331647, 67108863, 68157439, 69206015, 70254591, 71303167, 74448895, 75497471, 83886079, 100663295, 101711871, 102760447, 103809023, 104857599, 108003327, 109051903, 117440511, 134217727, 235929599, 236978175, 238026751, 239075327, 242221055, 243269631, 251658239, 268435455, 504365055, 505413631, 506462207, 507510783, 510656511, 511705087, 520093695, 536870911], [1073741823, 2147483647, 4294967295]] (mk 154 [(2, (rf 2 0)), (6, (dt (.sl 1 (r_11.2.1.map elI)))), (8, (ow 48)), (10, (di ((i_34 : Nat) : Int))), (86, (db (decide (((i_34 : Nat) : Int) < ((r_11.2.1.length : Nat) : Int))))), (89, (.agg (qTab t_1))), (90, (dt (.sl 1 (r_11.2.1.map elI)))), (91, (di ((i_34 : Nat) : Int))), (92, (dt (.ptr [(I x_49)]))), (93, (di x_49)), (94, (di r_53)), (95, (db (decide (r_53 < 0)))), (96, (db (decide (r_53 < 0)))), (97, (ow 48)), (98, (dt (.sl 1 (r_11.2.1.map elI)))), (99, (di ((i_34 : Nat) : Int))), (100, (dt (.ptr [(I x_49)]))), (101, (di x_49)), (102, (di (mget m_35 x_49))), (103, (db ((mget m_35 x_49) != 0))), (104, (db ((mget m_35 x_49) != 0))), (105, (db ((mget m_35 x_49) != 0))), (106, (di ((i_34 : Nat) : Int))), (107, (db (decide (((i_34 : Nat) : Int) > 0)))), (108, (db (decide (((i_34 : Nat) : Int) > 0)))), (109, (dt (.sl 1 (r_11.2.1.map elI)))), (110, (di ((i_34 : Nat) : Int))), (111, (di (((i_34 : Nat) : Int) - 1))), (112, (dt (.ptr [(I x_60)]))), (113, (di x_60)), (114, (dt (.sl 1 (r_11.2.1.map elI)))), (115, (di ((i_34 : Nat) : Int))), (116, (dt (.ptr [(I x_49)]))), (117, (di x_49)), (118, (db (decide (x_60 ≥ x_49)))), (119, (db (decide (x_60 ≥ x_49)))), (120, (db (decide (x_60 ≥ x_49))))] [(2, (.var (qTab t_1))), (48, (.map Tryz.prog 3 3 (mapD m_35)))]) (by kernel_rfl) (by decide) (by kernel_rfl) (by kernel_rfl) (by kernel_rfl) (by kernel_rfl) (by kernel_rfl) (by kernel_rfl) (zs (And.intro (by kernel_rfl) (by as_aux_lemma => kernel_rfl)) (zs (And.intro (by kernel_rfl) (by as_aux_lemma => kernel_rfl)) (zs (And.intro (by kernel_rfl) (by as_aux_lemma => kernel_rfl)) zS))) (zs (zc zt zt) (zs (zc zt zt) (zs (zc zt zt) (zs (zc zt e50) (zs (zc zt zt) (zs (zc zt (g_law42_index_ret e54)) (zs (zc zt zt) (zs (zc zt zt) (zs (zc (gd_ff b55) zt) (zs (zc (gd_ff b55) zt) (zs (zc (gd_ff b55) zt) (zs (zc (gd_ff b55) e50) (zs (zc (gd_ff b55) zt) (zs (zc (gd_ff b55) (show (Tryz.prog = Tryz.prog ∧ Tryz.prog.underlying 53 = some (.map 3 3) ∧ Tryz.prog.underlying 3 = some (.int .i64) ∧ (Lit.int .i64 x_49).wf = true ∧ lookSide Tryz.prog 3 (mapD m_35) (.int .i64 x_49) (I (mget m_35 x_49))) from ⟨rfl, by kernel_rfl, by kernel_rfl, wf_i64 c56.1 c56.2, by kernel_rfl, by kernel_rfl, mapD_get _ _⟩)) (zs (zc (gd_ff b55) zt) (zs (zc zt b55) (zs (zc zt zt) (zs (zc (gd_ff b57) zt) (zs (zc (gd_ff b57) zt) (zs (zc (gd_ff b57) zt) (zs (zc (gd_tt b58) zt) (zs (zc (gd_tt b58) zt) (zs (zc (gd_tt b58) c59) (zs (zc (gd_tt b58) e61) (zs (zc (gd_tt b58) zt) (zs (zc (gd_tt b58) zt) (zs (zc (gd_tt b58) zt) (zs (zc (gd_tt b58) e50) (zs (zc (gd_tt b58) zt) (zs (zc (gd_tt b58) zt) (zs (zc (gd_ff b57) b58) (zs (zc zt b57) zS)))))))))))))))))))))))))))))))) (by kernel_rfl) ?_
  exact Exists.intro (decide (x_60 ≥ x_49)) (And.intro h (arr [] [2, 6, 8, 10, 120] [] [2, 48] (by kernel_rfl)))
  replace h := ite_f b58 h
  refine T_arr [] [2, 6, 8, 10, 86] [] [2, 48] (mk 154 [(2, (rf 2 0)), (6, (dt (.sl 1 (r_11.2.1.map elI)))), (8, (ow 48)), (10, (di ((i_34 : Nat) : Int))), (86, (db (decide (((i_34 : Nat) : Int) < ((r_11.2.1.length : Nat) : Int)))))] [(2, (.var (qTab t_1))), (48, (.map Tryz.prog 3 3 (mapD m_35)))]) (by kernel_rfl) ?_
  refine T_anyV [{}, {}, {}, { h := zd (I x_49) }, {}, { h := zd (I r_53) }, {}, {}, {}, {}, {}, { h := zd (I x_49) }, {}, { h := zd (I (mget m_35 x_49)) }, {}, { h := zd (B false) }, {}, {}, {}, {}, { h := zg }, { h := zg }, { h := zg }, { h := zg }, { h := zg }, { h := zg }, { h := zg }, { h := zg }, { h := zg }, { h := zg }, { h := zd (B false) }, { h := zd (B false) }] _ (mk 154 [(2, (rf 2 0)), (6, (dt (.sl 1 (r_11.2.1.map elI)))), (8, (ow 48)), (10, (di ((i_34 : Nat) : Int))), (86, (db (decide (((i_34 : Nat) : Int) < ((r_11.2.1.length : Nat) : Int)))))] [(2, (.var (qTab t_1))), (48, (.map Tryz.prog 3 3 (mapD m_35)))]) [(89, [(0, (.agg (qTab t_1)))]), (90, [(1, (dt (.sl 1 (r_11.2.1.map elI))))]), (91, [(2, (di ((i_34 : Nat) : Int)))]), (92, [(3, (dt (.ptr [(I x_49)])))]), (93, [(4, (di x_49))]), (94, [(5, (di r_53))]), (95, [(6, (db (decide (r_53 < 0))))]), (96, [(7, (db (decide (r_53 < 0))))]), (97, [(8, (ow 48))]), (98, [(9, (dt (.sl 1 (r_11.2.1.map elI))))]), (99, [(10, (di ((i_34 : Nat) : Int)))]), (100, [(11, (dt (.ptr [(I x_49)])))]), (101, [(12, (di x_49))]), (102, [(13, (di (mget m_35 x_49)))]), (103, [(14, (db ((mget m_35 x_49) != 0)))]), (104, [(15, (db ((mget m_35 x_49) != 0)))]), (105, [(16, (db ((mget m_35 x_49) != 0)))]), (106, [(17, (di ((i_34 : Nat) : Int)))]), (107, [(18, (db (decide (((i_34 : Nat) : Int) > 0))))]), (108, [(19, (db (decide (((i_34 : Nat) : Int) > 0))))]), (109, [(20, (dt (.tup [])))]), (110, [(21, (dt (.tup [])))]), (111, [(22, (dt (.tup [])))]), (112, [(23, (dt (.tup [])))]), (113, [(24, (dt (.tup [])))]), (114, [(25, (dt (.tup [])))]), (115, [(26, (dt (.tup [])))]), (116, [(27, (dt (.tup [])))]), (117, [(28, (dt (.tup [])))]), (118, [(29, (dt (.tup [])))]), (119, [(30, (db false))]), (120, [(31, (db false))])] [] [2, 48] 32 [0, 0, 0, 6, 8, 17, 32, 96, 128, 128, 128, 1664, 2176, 4480, 8320, 16512, 32896, 65536, 196608, 327680, 524288, 524288, 2621440, 5767168, 8912896, 524288, 524288, 101187584, 134742016, 285736960, 537460736, 1073807360] (.n (.n (.n (.n (.n (.n (.n .e 0 .e) 1 .e) 2 (.n (.n .e 3 .e) 4 .e)) 5 (.n (.n (.n .e 6 .e) 7 .e) 14 (.n .e 15 .e))) 30 (.n (.n (.n (.n .e 31 .e) 63 .e) 127 (.n .e 255 .e)) 511 (.n (.n (.n .e 767 .e) 1023 .e) 1279 (.n .e 1535 .e)))) 1791 (.n (.n (.n (.n (.n .e 2047 .e) 3839 .e) 4095 (.n (.n .e 7935 .e) 8191 .e)) 16383 (.n (.n (.n .e 32767 .e) 65535 .e) 131071 (.n .e 262143 .e))) 524287 (.n (.n (.n (.n .e 1048575 .e) 2097151 .e) 3145727 (.n .e 4194303 .e)) 7340031 (.n (.n (.n .e 8388607 .e) 16777215 .e) 33554431 (.n .e 34603007 .e))))) 35651583 (.n (.n (.n (.n (.n (.n .e 36700159 .e) 37748735 .e) 40894463 (.n (.n .e 41943039 .e) 50331647 .e)) 67108863 (.n (.n (.n .e 68157439 .e) 69206015 .e) 70254591 (.n .e 71303167 .e))) 74448895 (.n (.n (.n (.n .e 75497471 .e) 83886079 .e) 100663295 (.n .e 101711871 .e)) 102760447 (.n (.n (.n .e 103809023 .e) 104857599 .e) 108003327 (.n .e 109051903 .e)))) 117440511 (.n (.n (.n (.n (.n .e 134217727 .e) 235929599 .e) 236978175 (.n (.n .e 238026751 .e) 239075327 .e)) 242221055 (.n (.n (.n .e 243269631 .e) 251658239 .e) 268435455 (.n .e 504365055 .e))) 505413631 (.n (.n (.n (.n .e 506462207 .e) 507510783 .e) 510656511 (.n .e 511705087 .e)) 520093695 (.n (.n (.n .e 536870911 .e) 1073741823 .e) 2147483647 (.n .e 4294967295 .e)))))) [[0, 1, 2, 3, 4, 5, 6, 7, 14, 15, 30, 31, 63, 127, 255, 511, 767, 1023, 1279, 1535, 1791, 2047, 3839, 4095, 7935, 8191, 16383, 32767, 65535, 131071, 262143, 524287, 1048575, 2097151, 3145727, 4194303, 7340031, 8388607, 16777215, 33554431], [34603007, 35651583, 36700159, 37748735, 40894463, 41943039, 50331647, 67108863, 68157439, 69206015, 70254591, 71303167, 74448895, 75497471, 83886079, 100663295, 101711871, 102760447, 103809023, 104857599, 108003327, 109051903, 117440511, 134217727, 235929599, 236978175, 238026751, 239075327, 242221055, 243269631, 251658239, 268435455, 504365055, 505413631, 506462207, 507510783, 510656511, 511705087, 520093695, 536870911], [1073741823, 2147483647, 4294967295]] (mk 154 [(2, (rf 2 0)), (6, (dt (.sl 1 (r_11.2.1.map elI)))), (8, (ow 48)), (10, (di ((i_34 : Nat) : Int))), (86, (db (decide (((i_34 : Nat) : Int) < ((r_11.2.1.length : Nat) : Int))))), (89, (.agg (qTab t_1))), (90, (dt (.sl 1 (r_11.2.1.map elI)))), (91, (di ((i_34 : Nat) : Int))), (92, (dt (.ptr [(I x_49)]))), (93, (di x_49)), (94, (di r_53)), (95, (db (decide (r_53 < 0)))), (96, (db (decide (r_53 < 0)))), (97, (ow 48)), (98, (dt (.sl 1 (r_11.2.1.map elI)))), (99, (di ((i_34 : Nat) : Int))), (100, (dt (.ptr [(I x_49)]))), (101, (di x_49)), (102, (di (mget m_35 x_49))), (103, (db ((mget m_35 x_49) != 0))), (104, (db ((mget m_35 x_49) != 0))), (105, (db ((mget m_35 x_49) != 0))), (106, (di ((i_34 : Nat) : Int))), (107, (db (decide (((i_34 : Nat) : Int) > 0)))), (108, (db (decide (((i_34 : Nat) : Int) > 0)))), (109, (dt (.tup []))), (110, (dt (.tup []))), (111, (dt (.tup []))), (112, (dt (.tup []))), (113, (dt (.tup []))), (114, (dt (.tup []))), (115, (dt (.tup []))), (116, (dt (.tup []))), (117, (dt (.tup []))), (118, (dt (.tup []))), (119, (db false)), (120, (db false))] [(2, (.var (qTab t_1))), (48, (.map Tryz.prog 3 3 (mapD m_35)))]) (by kernel_rfl) (by decide) (by kernel_rfl) (by kernel_rfl) (by kernel_rfl) (by kernel_rfl) (by kernel_rfl) (by kernel_rfl) (zs (And.intro (by kernel_rfl) (by as_aux_lemma => kernel_rfl)) (zs (And.intro (by kernel_rfl) (by as_aux_lemma => kernel_rfl)) (zs (And.intro (by kernel_rfl) (by as_aux_lemma => kernel_rfl)) zS))) (zs (zc zt zt) (zs (zc zt zt) (zs (zc zt zt) (zs (zc zt e50) (zs (zc zt zt) (zs (zc zt (g_law42_index_ret e54)) (zs (zc zt zt) (zs (zc zt zt) (zs (zc (gd_ff b55) zt) (zs (zc (gd_ff b55) zt) (zs (zc (gd_ff b55) zt) (zs (zc (gd_ff b55) e50) (zs (zc (gd_ff b55) zt) (zs (zc (gd_ff b55) (show (Tryz.prog = Tryz.prog ∧ Tryz.prog.underlying 53 = some (.map 3 3) ∧ Tryz.prog.underlying 3 = some (.int .i64) ∧ (Lit.int .i64 x_49).wf = true ∧ lookSide Tryz.prog 3 (mapD m_35) (.int .i64 x_49) (I (mget m_35 x_49))) from ⟨rfl, by kernel_rfl, by kernel_rfl, wf_i64 c56.1 c56.2, by kernel_rfl, by kernel_rfl, mapD_get _ _⟩)) (zs (zc (gd_ff b55) zt) (zs (zc zt b55) (zs (zc zt zt) (zs (zc (gd_ff b57) zt) (zs (zc (gd_ff b57) zt) (zs (zc (gd_ff b57) zt) (zs (gd_ft b58) (zs (gd_ft b58) (zs (gd_ft b58) (zs (gd_ft b58) (zs (gd_ft b58) (zs (gd_ft b58) (zs (gd_ft b58) (zs (gd_ft b58) (zs (gd_ft b58) (zs (gd_ft b58) (zs (zc (gd_ff b57) b58) (zs (zc zt b57) zS)))))))))))))))))))))))))))))))) (by kernel_rfl) ?_
  exact Exists.intro false (And.intro h (arr [] [2, 6, 8, 10, 120] [] [2, 48] (by kernel_rfl)))
  replace h := ite_f b38 h
  refine T_exit ?_
  replace h := up_inv h hy1
  exact Exists.intro m_35 (And.intro h (arr [] [2, 8] [] [2, 48] (by kernel_rfl)))
  refine T_reg [] [2, 5, 6, 8, 9] [] (mk 154 [(2, (rf 2 0)), (5, (dt (.sl 1 (r_11.1.map elI)))), (6, (dt (.sl 1 (r_11.2.1.map elI)))), (8, (ow 48)), (9, (di 0))] [(48, (.map Tryz.prog 3 3 (mapD ([] : List (Int × Int))))), (2, (.var (qTab t_1)))]) _ (by kernel_rfl) (z2 zt) ?_
  refine T_block ?_
  refine T_arr [] [2, 5, 6, 8, 9] [] [2, 48] _ (by kernel_rfl) (T_loopO (σ := Nat × (List (Int × Int))) (fun ((i_64, m_65) : Nat × (List (Int × Int))) => (mk 154 [(2, (rf 2 0)), (5, (dt (.sl 1 (r_11.1.map elI)))), (6, (dt (.sl 1 (r_11.2.1.map elI)))), (8, (ow 48)), (9, (di ((i_64 : Nat) : Int)))] [(2, (.var (qTab t_1))), (48, (.map Tryz.prog 3 3 (mapD m_65)))])) (g_law42_PrizesMoves_l8 r_11 t_1) (0, ([] : List (Int × Int))) h (fun v y1 hy1 h => ?_))
  obtain ⟨i_64, m_65⟩ := v
  refine T_seq ?_
  refine T_reg [zn, zn, (zd (I ((r_11.1.length : Nat) : Int)))] [2, 5, 6, 8, 9, 52] [] (mk 154 [(2, (rf 2 0)), (5, (dt (.sl 1 (r_11.1.map elI)))), (6, (dt (.sl 1 (r_11.2.1.map elI)))), (8, (ow 48)), (9, (di ((i_64 : Nat) : Int))), (52, (db (decide (((i_64 : Nat) : Int) < ((r_11.1.length : Nat) : Int)))))] [(2, (.var (qTab t_1))), (48, (.map Tryz.prog 3 3 (mapD m_65)))]) _ (by kernel_rfl) (z5 (zc (len_s elI r_11.1) (z2 zt))) ?_
  refine T_cond (decide (((i_64 : Nat) : Int) < ((r_11.1.length : Nat) : Int))) (by kernel_rfl) (fun b68 => ?_) (fun b68 => ?_)
  replace h := ite_t b68 h
  refine T_skip ?_
  refine T_seq ?_
  refine T_block ?_
  refine T_seq ?_
  refine T_seqJ (α := Bool) (fun (v_69 : Bool) => (mk 154 [(2, (rf 2 0)), (5, (dt (.sl 1 (r_11.1.map elI)))), (6, (dt (.sl 1 (r_11.2.1.map elI)))), (8, (ow 48)), (9, (di ((i_64 : Nat) : Int))), (77, (db (v_69)))] [(2, (.var (qTab t_1))), (48, (.map Tryz.prog 3 3 (mapD m_65)))])) (fun (v_69 : Bool) => g_law42_PrizesMoves_j9 r_11 i_64 m_65 t_1 v_69 = some y1) (fun v_69 h => ?_) ?_
  refine T_cond (v_69) (by kernel_rfl) (fun b70 => ?_) (fun b70 => ?_)
  replace h := ite_t b70 h
  refine T_reg [] [4] [2, 48] (mk 154 [(4, (db false))] []) _ (by kernel_rfl) (z2 zt) ?_
  refine T_ret ?_
  replace h := up_inv h hy1
  obtain rfl := some_inv h
  exact ret_here [(db false)] (by kernel_rfl) (.inl rfl)
  replace h := ite_f b70 h
  refine T_skip ?_
  obtain ⟨x_71, e72, e73, e74, h⟩ := gn_inv elI h
  refine T_parts ?_
  refine TL_part 5 [zn, zn, zn, (zd (I x_71))] (mk 154 [(2, (rf 2 0)), (5, (dt (.sl 1 (r_11.1.map elI)))), (6, (dt (.sl 1 (r_11.2.1.map elI)))), (8, (ow 48)), (9, (di ((i_64 : Nat) : Int))), (77, (db (v_69))), (78, (ow 48)), (79, (dt (.sl 1 (r_11.1.map elI)))), (80, (di ((i_64 : Nat) : Int))), (81, (dt (.ptr [(I x_71)]))), (82, (di x_71))] [(2, (.var (qTab t_1))), (48, (.map Tryz.prog 3 3 (mapD m_65)))]) _ (by kernel_rfl) (z7 (zc e72 (z2 zt))) rfl ?_
  obtain ⟨c75, h⟩ := ckI_in h
  obtain ⟨c76, h⟩ := ckI_in h
  obtain ⟨c77, h⟩ := ck_inv h
  refine TL_mapUpdate 53 3 3 48 _ _ _ m_65 x_71 1 rfl rfl (by kernel_rfl) (by kernel_rfl) (by kernel_rfl) (by kernel_rfl) (by kernel_rfl) (by kernel_rfl) (by kernel_rfl) c75 c76 c77 ?_
  refine TL_turn [] [2, 5, 6, 8, 9] [] (mk 154 [(2, (rf 2 0)), (5, (dt (.sl 1 (r_11.1.map elI)))), (6, (dt (.sl 1 (r_11.2.1.map elI)))), (8, (ow 48)), (9, (di ((i_64 : Nat) : Int)))] [(2, (.var (qTab t_1))), (48, (.map Tryz.prog 3 3 (mapD (mput m_65 x_71 1))))]) (by kernel_rfl) ?_
  refine TL_nilQ ?_
  obtain ⟨c78, h⟩ := ckI_inv h
  exact T_regJ [zn, (zd (I ((i_64 + 1 : Nat) : Int)))] [] [2, 5, 6, 8, 9] [] [2, 48] _ _ (by kernel_rfl) (z3 (zc c78 (z2 zt))) (fun s hs => Exists.intro (i_64 + 1, (mput m_65 x_71 1)) (And.intro h hs))
  obtain ⟨x_79, e80, e81, e82, h⟩ := gn_inv elI h
  obtain ⟨r_83, e84, h⟩ := bd_inv h
  rcases Bool.eq_false_or_eq_true (decide (r_83 < 0)) with b85 | b85
  replace h := ite_t b85 h
  exact T_regJD 23 (hl 23 [(3, (zd (I x_79))), (5, (zd (I r_83))), (8, zg), (9, zg), (10, zg), (21, zg), (22, (zd (B true)))]) [] [2, 5, 6, 8, 9, 77] [] [2, 48] _ _ (by kernel_rfl) (by kernel_rfl) (by kernel_rfl) (zc (z7 (zc e80 (z3 (zc (g_law42_index_ret e84) (z4 (zc (gd_tf b85) (zc (gd_tf b85) (zc (gd_tf b85) (z8 (z2 (zc (gd_tf b85) (z1 (zc b85 zt))))))))))))) zt) (fun s hs => Exists.intro true (And.intro h hs))
  replace h := ite_f b85 h
  rcases Bool.eq_false_or_eq_true (decide (((i_64 : Nat) : Int) > 0)) with b86 | b86
  replace h := ite_t b86 h
  obtain ⟨c87, h⟩ := ckI_inv h
  obtain ⟨x_88, e89, e90, e91, h⟩ := gt_inv elI h
  exact T_regJD 23 (hl 23 [(3, (zd (I x_79))), (5, (zd (I r_83))), (13, (zd (I (((i_64 : Nat) : Int) - 1)))), (14, (zd (I x_88))), (18, (zd (I x_79))), (21, (zd (B true))), (22, (zd (B false)))]) [] [2, 5, 6, 8, 9, 77] [] [2, 48] _ _ (by kernel_rfl) (by kernel_rfl) (by kernel_rfl) (zc (z7 (zc e80 (z3 (zc (g_law42_index_ret e84) (z4 (zc (gd_ff b85) (z1 (zc (gd_ff b85) (z1 (zc (gd_ff b85) (z1 (zc (gd_tt b86) (z1 (zc (gd_tt b86) (z1 (zc (gd_tt b86) (zc c87 (zc (gd_tt b86) (zc e89 (zc (gd_tt b86) (z1 (zc (gd_tt b86) (z1 (zc (gd_tt b86) (z1 (zc (gd_tt b86) (zc e80 (zc (gd_tt b86) (z1 (zc (gd_tt b86) (z1 (zc (gd_ff b85) (zc b86 (z1 (zc b85 zt))))))))))))))))))))))))))))))))))) zt) (fun s hs => Exists.intro (decide (x_88 ≥ x_79)) (And.intro h hs))
  replace h := ite_f b86 h
  exact T_regJD 23 [zn, zn, zn, (zd (I x_79)), zn, (zd (I r_83)), zn, zn, zn, zn, zn, zg, zg, zg, zg, zg, zg, zg, zg, zg, zg, (zd (B false)), (zd (B false))] [] [2, 5, 6, 8, 9, 77] [] [2, 48] _ _ (by kernel_rfl) (by kernel_rfl) (by kernel_rfl) (zc (z7 (zc e80 (z3 (zc (g_law42_index_ret e84) (z4 (zc (gd_ff b85) (z1 (zc (gd_ff b85) (z1 (zc (gd_ff b85) (z1 (zc (gd_ft b86) (zc (gd_ft b86) (zc (gd_ft b86) (zc (gd_ft b86) (zc (gd_ft b86) (zc (gd_ft b86) (zc (gd_ft b86) (zc (gd_ft b86) (zc (gd_ft b86) (zc (gd_ft b86) (zc (gd_ff b85) (zc b86 (z1 (zc b85 zt))))))))))))))))))))))))) zt) (fun s hs => Exists.intro false (And.intro h hs))
  replace h := ite_f b68 h
  refine T_exit ?_
  replace h := up_inv h hy1
  exact Exists.intro m_65 (And.intro h (arr [] [2, 6, 8] [] [2, 48] (by kernel_rfl)))
  rcases Bool.eq_false_or_eq_true (((r_11.1.length : Nat) : Int) != s_2.u) with b92 | b92
  replace h := ite_t b92 h
  exact T_regJ [zn, (zd (I ((r_11.1.length : Nat) : Int))), zn, zn, zn, zn, zg, zg, zg, zg, zg, (zd (B true))] [] [2, 5, 6, 47] [3] [2] _ _ (by kernel_rfl) (z3 (zc (len_s elI r_11.1) (z8 (zc (gd_tf b92) (zc (gd_tf b92) (zc (gd_tf b92) (zc (gd_tf b92) (zc (gd_tf b92) (z1 (zc b92 zt)))))))))) (fun s hs => Exists.intro true (And.intro h hs))
  replace h := ite_f b92 h
  exact T_regJ (hl 12 [(1, (zd (I ((r_11.1.length : Nat) : Int)))), (7, (zd (I ((r_11.2.1.length : Nat) : Int)))), (11, (zd (B false)))]) [] [2, 5, 6, 47] [3] [2] _ _ (by kernel_rfl) (z3 (zc (len_s elI r_11.1) (z8 (zc (gd_ff b92) (z1 (zc (gd_ff b92) (zc (len_s elI r_11.2.1) (zc (gd_ff b92) (z1 (zc (gd_ff b92) (z1 (zc (gd_ff b92) (z2 (zc b92 zt)))))))))))))) (fun s hs => Exists.intro (((r_11.2.1.length : Nat) : Int) != s_2.d) (And.intro h hs))

end Go.Proofs.YtoiiblkncbnlaaaGreat

/-
  Chapter 42: the first clubs rise and the last ones fall. Conditions: those of each theorem.
-/
set_option linter.unusedVariables false
set_option linter.unusedSimpArgs false
namespace Go.Proofs.YtoiiblkncbnlaaaGreat
open Go.DL
set_option maxHeartbeats 4000000
theorem minsert_get {x : Int × Int} (c : Int) : ∀ {l : List (Int × Int)}, (∀ y ∈ l, y.1 ≠ x.1) → mget (minsert x l) c = if x.1 = c then x.2 else mget l c
  | [], _ => by simp [minsert, mget]
  | z :: l, hn => by
    have hz := hn z (by simp)
    unfold minsert
    split
    · simp [mget]
    · rw [mget, minsert_get c fun y hy => hn y (by simp [hy]), mget]
      by_cases h1 : z.1 = c
      · rw [if_pos h1, if_pos h1, if_neg (by omega)]
      · rw [if_neg h1, if_neg h1]
theorem filter_get {l : List (Int × Int)} {a c : Int} (h : a ≠ c) : mget (l.filter fun p => !(p.1 == a)) c = mget l c := by
  induction l with
  | nil => rfl
  | cons z l ih =>
    rw [List.filter_cons]
    by_cases h1 : z.1 = a
    · have : z.1 ≠ c := by omega
      simp only [h1, beq_self_eq_true, Bool.not_true, Bool.false_eq_true, if_false]
      rw [ih, mget, if_neg this]
    · have : (z.1 == a) = false := by simpa using h1
      simp only [this, Bool.not_false, if_true]
      rw [mget, mget, ih]
theorem filter_ne {l : List (Int × Int)} {a : Int} : ∀ y ∈ l.filter (fun p => !(p.1 == a)), y.1 ≠ a := by
  intro y hy
  have := (List.mem_filter.1 hy).2
  simpa using this
theorem mput_get (l : List (Int × Int)) (a v c : Int) : mget (mput l a v) c = if a = c then v else mget l c := by
  rw [mput, minsert_get c (by exact filter_ne)]
  by_cases h : a = c
  · rw [if_pos h, if_pos h]
  · rw [if_neg h, if_neg h, filter_get h]
theorem minsert_ln (x : Int × Int) : ∀ l : List (Int × Int), (minsert x l).length = l.length + 1
  | [] => rfl
  | z :: l => by
    unfold minsert
    split
    · rfl
    · rw [List.length_cons, minsert_ln x l]; rfl
theorem mput_ln (l : List (Int × Int)) (a v : Int) : (mput l a v).length ≤ l.length + 1 := by
  rw [mput, minsert_ln]
  have := List.length_filter_le (fun p => !(p.1 == a)) l
  omega
theorem indexT_eq {t : Tab} {c : Int} (hl : t.l.length ≤ 1000) : WP (g_law42_index t c) (fun r => (0 ≤ r ↔ c ∈ t.l.map clubOf)) := by
  unfold g_law42_index
  refine WP.loop (fun k => k ≤ t.l.length ∧ ∀ x ∈ t.l.take k, x.r.c ≠ c) (fun k => t.l.length - k) ?_ ⟨by omega, by simp⟩
  rintro k ⟨hk, iv⟩
  simp only [g_law42_index_l2]
  refine WP.iteD (fun hlt => ?_) (fun hlt => ?_)
  · obtain ⟨x, hx⟩ : ∃ x, t.l[k]? = some x := ⟨_, List.getElem?_eq_getElem (by omega)⟩
    rw [gn_some hx]
    refine WP.iteE (fun he => ?_) (fun he => ?_)
    · (repeat' (first | with_reducible (first | refine WP.iteT ?_ | refine WP.iteF ?_ | refine WP.iteNb ?_ | refine WP.iteD (fun _ => ?_) (fun _ => ?_) | refine WP.iteE (fun _ => ?_) (fun _ => ?_) | refine WP.iteN (fun _ => ?_) (fun _ => ?_) | refine WP.iteB (fun _ => ?_) (fun _ => ?_)) | (with_reducible refine WP.ckI ?_ ?_; · omega) | (with_reducible refine WP.gn ?_ (fun _ _ => ?_); · omega) | (with_reducible refine WP.gt ?_ (fun _ _ => ?_); · omega) | with_reducible (first | refine WP.up ?_ | refine WP.letO ?_ | refine WP.ret ?_)))
      show (0 ≤ ((k : Nat) : Int) ↔ c ∈ t.l.map clubOf)
      exact ⟨fun _ => List.mem_map.2 ⟨x, List.mem_of_getElem? hx, he⟩, fun _ => by omega⟩
    · (repeat' (first | with_reducible (first | refine WP.iteT ?_ | refine WP.iteF ?_ | refine WP.iteNb ?_ | refine WP.iteD (fun _ => ?_) (fun _ => ?_) | refine WP.iteE (fun _ => ?_) (fun _ => ?_) | refine WP.iteN (fun _ => ?_) (fun _ => ?_) | refine WP.iteB (fun _ => ?_) (fun _ => ?_)) | (with_reducible refine WP.ckI ?_ ?_; · omega) | (with_reducible refine WP.gn ?_ (fun _ _ => ?_); · omega) | (with_reducible refine WP.gt ?_ (fun _ _ => ?_); · omega) | with_reducible (first | refine WP.up ?_ | refine WP.letO ?_ | refine WP.ret ?_)))
      exact ⟨⟨by omega, all_snoc iv hx he⟩, by dsimp only; omega⟩
  · rw [List.take_of_length_le (by omega)] at iv
    unfold g_law42_index_j1
    (repeat' (first | with_reducible (first | refine WP.iteT ?_ | refine WP.iteF ?_ | refine WP.iteNb ?_ | refine WP.iteD (fun _ => ?_) (fun _ => ?_) | refine WP.iteE (fun _ => ?_) (fun _ => ?_) | refine WP.iteN (fun _ => ?_) (fun _ => ?_) | refine WP.iteB (fun _ => ?_) (fun _ => ?_)) | (with_reducible refine WP.ckI ?_ ?_; · omega) | (with_reducible refine WP.gn ?_ (fun _ _ => ?_); · omega) | (with_reducible refine WP.gt ?_ (fun _ _ => ?_); · omega) | with_reducible (first | refine WP.up ?_ | refine WP.letO ?_ | refine WP.ret ?_)))
    show (0 ≤ (-1 : Int) ↔ c ∈ t.l.map clubOf)
    refine ⟨fun h => by omega, fun h => ?_⟩
    obtain ⟨x, hx, hc⟩ := List.mem_map.1 h
    exact absurd hc (iv x hx)
theorem mem_take_at {l : List Int} (hn : l.Nodup) {i u : Nat} {x : Int} (hx : l[i]? = some x) : x ∈ l.take u ↔ i < u := by
  constructor
  · intro h
    obtain ⟨j, hj⟩ := List.mem_iff_getElem?.1 h
    have h1 := (List.getElem?_eq_some_iff.1 hj).1
    rw [List.length_take] at h1
    rw [List.getElem?_take_of_lt (by omega)] at hj
    obtain ⟨a1, a2⟩ := List.getElem?_eq_some_iff.1 hx
    obtain ⟨b1, b2⟩ := List.getElem?_eq_some_iff.1 hj
    have := (List.getElem_inj hn).1 (a2.trans b2.symm)
    omega
  · intro h
    exact List.mem_of_getElem? (i := i) (by rw [List.getElem?_take_of_lt h]; exact hx)
theorem mem_drop_at {l : List Int} (hn : l.Nodup) {i u : Nat} {x : Int} (hx : l[i]? = some x) : x ∈ l.drop u ↔ u ≤ i := by
  constructor
  · intro h
    obtain ⟨j, hj⟩ := List.mem_iff_getElem?.1 h
    rw [List.getElem?_drop] at hj
    obtain ⟨a1, a2⟩ := List.getElem?_eq_some_iff.1 hx
    obtain ⟨b1, b2⟩ := List.getElem?_eq_some_iff.1 hj
    have := (List.getElem_inj hn).1 (a2.trans b2.symm)
    omega
  · intro h
    exact List.mem_of_getElem? (i := i - u) (by rw [List.getElem?_drop, show u + (i - u) = i by omega]; exact hx)
theorem srtI_lt {l : List Int} (h : l.Nodup) : (srtI l).Pairwise (· < ·) := by
  have h2 : (srtI l).Nodup := (srtI_perm l).nodup_iff.2 h
  exact ((srtI_sorted l).and h2).imp fun h => by omega
theorem lt_prev {l : List Int} (h : l.Pairwise (· < ·)) {k : Nat} {x y : Int} (hk : 0 < k) (hy : l[k - 1]? = some y) (hx : l[k]? = some x) : y < x := by
  obtain ⟨a1, a2⟩ := List.getElem?_eq_some_iff.1 hx
  obtain ⟨b1, b2⟩ := List.getElem?_eq_some_iff.1 hy
  have := List.pairwise_iff_getElem.1 h (k - 1) k b1 a1 (by omega)
  rw [a2, b2] at this; exact this
theorem movesLaw_eq (t : Tab) (s : Sch) : g_law42_PrizesMoves t s = some true := by
  refine WP.eq ?_
  unfold g_law42_PrizesMoves
  refine WP.bd sane_eq ?_
  refine WP.iteNb (WP.iteT ?_)
  refine WP.bd (r := ([t], [s])) rfl ?_
  refine WP.bdW ((few_eq [t] [s]).mono fun z hz => ?_)
  cases z
  · exact WP.iteNb (WP.iteF (WP.ret rfl))
  obtain ⟨h1, h2⟩ := few_one (hz.1 rfl)
  refine WP.iteNb (WP.iteT ?_)
  refine WP.bd (moves_eq (by omega) (by omega)) ?_
  refine WP.iteN (fun h => ?_) (fun h => ?_)
  · dsimp only at h
    refine WP.ckI ?_ (WP.ret ?_)
    · rw [upM_nil h, downM_nil h]; simp
    · rw [upM_nil h, downM_nil h]; rfl
  dsimp only at h
  obtain ⟨hf, hchk⟩ := movE_chk h
  have hr := fit_ranges hf
  have hud : s.u + s.d ≤ (t.l.length : Int) := by
    by_cases h3 : s.u + s.d > (t.l.length : Int)
    · rw [movE_420 hf h3] at h; cases h
    · omega
  have hnd := chk_nodup hchk
  have hrng := chk_range hchk
  obtain ⟨L, hL⟩ : ∃ L, L = t.l.map clubOf := ⟨_, rfl⟩
  rw [← hL] at hnd hrng
  have hLl : L.length = t.l.length := by rw [hL, List.length_map]
  have eu : upM t s = srtI (L.take s.u.toNat) := by rw [upM_ok h, clubsL, List.map_take, hL]
  have ed : downM t s = srtI (L.drop (t.l.length - s.d.toNat)) := by rw [downM_ok h, clubsL, List.map_drop, hL]
  obtain ⟨U, hU⟩ : ∃ U, U = upM t s := ⟨_, rfl⟩
  obtain ⟨W, hW⟩ : ∃ W, W = downM t s := ⟨_, rfl⟩
  rw [← hU, ← hW]
  have mU : ∀ x, x ∈ U ↔ x ∈ L.take s.u.toNat := fun x => by rw [hU, eu]; exact (srtI_perm _).mem_iff
  have mW : ∀ x, x ∈ W ↔ x ∈ L.drop (t.l.length - s.d.toNat) := fun x => by rw [hW, ed]; exact (srtI_perm _).mem_iff
  have sU : U.Pairwise (· < ·) := by rw [hU, eu]; exact srtI_lt (hnd.sublist (List.take_sublist _ _))
  have sW : W.Pairwise (· < ·) := by rw [hW, ed]; exact srtI_lt (hnd.sublist (List.drop_sublist _ _))
  have lU : U.length = s.u.toNat := by rw [hU, eu, srtI_length, List.length_take]; omega
  have lW : W.length = s.d.toNat := by rw [hW, ed, srtI_length, List.length_drop]; omega
  have disj : ∀ x, x ∈ U → x ∈ W → False := fun x h3 h4 => by
    rw [mU] at h3
    rw [mW] at h4
    obtain ⟨i, hi⟩ := List.mem_iff_getElem?.1 (List.mem_of_mem_take h3)
    have a1 := (mem_take_at hnd hi).1 h3
    have a2 := (mem_drop_at hnd hi).1 h4
    omega
  clear hU hW eu ed
  -- the places, one after the other
  have j3 : ∀ m : List (Int × Int), (∀ c, mget m c = if c ∈ W then -1 else if c ∈ U then 1 else 0) → WP (g_law42_PrizesMoves_j3 t m) (fun z => z = true) := fun m hm => by
    unfold g_law42_PrizesMoves_j3
    refine WP.loop (fun k => k ≤ t.l.length) (fun k => t.l.length - k) ?_ (by omega)
    rintro k hk
    simp only [g_law42_PrizesMoves_l5]
    refine WP.ckI (by omega) ?_
    refine WP.iteD (fun hlt => ?_) (fun hlt => ?_)
    · obtain ⟨x, hx⟩ : ∃ x, t.l[k]? = some x := ⟨_, List.getElem?_eq_getElem (by omega)⟩
      obtain ⟨y, hy⟩ : ∃ y, t.l[k + 1]? = some y := ⟨_, List.getElem?_eq_getElem (by omega)⟩
      rw [gn_some hx]
      have hLx : L[k]? = some x.r.c := by rw [hL, List.getElem?_map, hx]; rfl
      have hLy : L[k + 1]? = some y.r.c := by rw [hL, List.getElem?_map, hy]; rfl
      have b1 := hrng _ (List.mem_of_getElem? hLx)
      have b2 := hrng _ (List.mem_of_getElem? hLy)
      refine WP.ckI (by omega) ?_
      rw [gn_some hy]
      refine WP.ckI (by omega) ?_
      have c1 : x.r.c ∈ U ↔ k < s.u.toNat := (mU _).trans (mem_take_at hnd hLx)
      have c2 : y.r.c ∈ U ↔ k + 1 < s.u.toNat := (mU _).trans (mem_take_at hnd hLy)
      have c3 : x.r.c ∈ W ↔ t.l.length - s.d.toNat ≤ k := (mW _).trans (mem_drop_at hnd hLx)
      have c4 : y.r.c ∈ W ↔ t.l.length - s.d.toNat ≤ k + 1 := (mW _).trans (mem_drop_at hnd hLy)
      refine WP.iteD (fun h3 => ?_) (fun _ => ?_)
      · exfalso
        rw [hm, hm] at h3
        simp only [c1, c2, c3, c4] at h3
        split at h3 <;> split at h3 <;> (try split at h3) <;> (try split at h3) <;> omega
      · (repeat' (first | with_reducible (first | refine WP.iteT ?_ | refine WP.iteF ?_ | refine WP.iteNb ?_ | refine WP.iteD (fun _ => ?_) (fun _ => ?_) | refine WP.iteE (fun _ => ?_) (fun _ => ?_) | refine WP.iteN (fun _ => ?_) (fun _ => ?_) | refine WP.iteB (fun _ => ?_) (fun _ => ?_)) | (with_reducible refine WP.ckI ?_ ?_; · omega) | (with_reducible refine WP.gn ?_ (fun _ _ => ?_); · omega) | (with_reducible refine WP.gt ?_ (fun _ _ => ?_); · omega) | with_reducible (first | refine WP.up ?_ | refine WP.letO ?_ | refine WP.ret ?_)))
        exact ⟨by omega, by dsimp only; omega⟩
    · unfold g_law42_PrizesMoves_j4
      (repeat' (first | with_reducible (first | refine WP.iteT ?_ | refine WP.iteF ?_ | refine WP.iteNb ?_ | refine WP.iteD (fun _ => ?_) (fun _ => ?_) | refine WP.iteE (fun _ => ?_) (fun _ => ?_) | refine WP.iteN (fun _ => ?_) (fun _ => ?_) | refine WP.iteB (fun _ => ?_) (fun _ => ?_)) | (with_reducible refine WP.ckI ?_ ?_; · omega) | (with_reducible refine WP.gn ?_ (fun _ _ => ?_); · omega) | (with_reducible refine WP.gt ?_ (fun _ _ => ?_); · omega) | with_reducible (first | refine WP.up ?_ | refine WP.letO ?_ | refine WP.ret ?_))); rfl
  have j2 : ∀ m : List (Int × Int), m.length ≤ 30 → (∀ c, mget m c = if c ∈ U then 1 else 0) → WP (g_law42_PrizesMoves_j2 (U, W, movE t s) t m) (fun z => z = true) := fun m0 hm0 hm => by
    unfold g_law42_PrizesMoves_j2
    refine WP.loop (fun v => v.1 ≤ W.length ∧ v.2.length ≤ 30 + v.1 ∧ ∀ c, mget v.2 c = if c ∈ W.take v.1 then -1 else if c ∈ U then 1 else 0) (fun v => W.length - v.1) ?_ ⟨by simp, by simpa using hm0, fun c => by simpa using hm c⟩
    rintro ⟨k, m⟩ ⟨hk, hml, iv⟩
    dsimp only at hk hml iv ⊢
    simp only [g_law42_PrizesMoves_l6]
    refine WP.iteD (fun hlt => ?_) (fun hlt => ?_)
    · obtain ⟨x, hx⟩ : ∃ x, W[k]? = some x := ⟨_, List.getElem?_eq_getElem (by omega)⟩
      have hxW := List.mem_of_getElem? hx
      have hxL : x ∈ L := List.mem_of_mem_drop ((mW x).1 hxW)
      have hxr := hrng x hxL
      rw [gn_some hx]
      refine WP.bdW ((indexT_eq (c := x) (by omega)).mono fun r hr2 => ?_)
      rw [← hL] at hr2
      have := hr2.2 hxL
      refine WP.iteD (fun h3 => absurd h3 (by omega)) (fun _ => ?_)
      refine WP.ckI (by omega) ?_
      have hnotT : x ∉ W.take k := fun h3 => by
        have := (mem_take_at (sW.imp fun h => by omega) hx).1 h3; omega
      have hnotU : x ∉ U := fun h3 => disj x h3 hxW
      have j7 : WP (g_law42_PrizesMoves_j7 (U, W, movE t s) k m t false) (Rnd (fun v : Nat × List (Int × Int) => v.1 ≤ W.length ∧ v.2.length ≤ 30 + v.1 ∧ ∀ c, mget v.2 c = if c ∈ W.take v.1 then -1 else if c ∈ U then 1 else 0) (fun v => W.length - v.1) (W.length - k) fun z => z = true) := by
        unfold g_law42_PrizesMoves_j7
        refine WP.iteF ?_
        rw [gn_some hx]
        refine WP.ckI (by omega) ?_
        refine WP.ckI (by omega) ?_
        refine WP.ck (by simp only [maxLen]; omega) ?_
        have := mput_ln m x (-1)
        (repeat' (first | with_reducible (first | refine WP.iteT ?_ | refine WP.iteF ?_ | refine WP.iteNb ?_ | refine WP.iteD (fun _ => ?_) (fun _ => ?_) | refine WP.iteE (fun _ => ?_) (fun _ => ?_) | refine WP.iteN (fun _ => ?_) (fun _ => ?_) | refine WP.iteB (fun _ => ?_) (fun _ => ?_)) | (with_reducible refine WP.ckI ?_ ?_; · omega) | (with_reducible refine WP.gn ?_ (fun _ _ => ?_); · omega) | (with_reducible refine WP.gt ?_ (fun _ _ => ?_); · omega) | with_reducible (first | refine WP.up ?_ | refine WP.letO ?_ | refine WP.ret ?_)))
        refine ⟨⟨by dsimp only; omega, by dsimp only; omega, fun c => ?_⟩, by dsimp only; omega⟩
        dsimp only
        have e : c ∈ W.take (k + 1) ↔ c ∈ W.take k ∨ c = x := by rw [take_snoc hx, List.mem_append, List.mem_singleton]
        rw [mput_get, iv]
        by_cases hc : x = c
        · rw [if_pos hc, if_pos (e.2 (.inr hc.symm))]
        · rw [if_neg hc]
          by_cases h9 : c ∈ W.take k
          · rw [if_pos h9, if_pos (e.2 (.inl h9))]
          · rw [if_neg h9, if_neg (fun h => (e.1 h).elim h9 fun h => hc h.symm)]
      refine WP.iteN (fun h3 => ?_) (fun _ => ?_)
      · exfalso; apply h3; rw [iv, if_neg hnotT, if_neg hnotU]
      refine WP.iteD (fun h3 => ?_) (fun _ => j7)
      refine WP.ckI (by omega) ?_
      obtain ⟨y, hy⟩ : ∃ y, W[k - 1]? = some y := ⟨_, List.getElem?_eq_getElem (by omega)⟩
      rw [gt_some (x := y) (by rw [show (((k : Nat) : Int) - 1).toNat = k - 1 by omega]; exact hy) (by omega)]
      have := lt_prev sW (by omega) hy hx
      rw [show (decide (y ≥ x)) = false from decide_eq_false (by omega)]
      exact j7
    · rw [List.take_of_length_le (by omega)] at iv
      exact WP.up (j3 m iv)
  have j1 : WP (g_law42_PrizesMoves_j1 (U, W, movE t s) t false) (fun z => z = true) := by
    unfold g_law42_PrizesMoves_j1
    refine WP.iteF ?_
    refine WP.loop (fun v => v.1 ≤ U.length ∧ v.2.length ≤ v.1 ∧ ∀ c, mget v.2 c = if c ∈ U.take v.1 then 1 else 0) (fun v => U.length - v.1) ?_ ⟨by simp, by simp, fun c => by simp [mget]⟩
    rintro ⟨k, m⟩ ⟨hk, hml, iv⟩
    dsimp only at hk hml iv ⊢
    simp only [g_law42_PrizesMoves_l8]
    refine WP.iteD (fun hlt => ?_) (fun hlt => ?_)
    · obtain ⟨x, hx⟩ : ∃ x, U[k]? = some x := ⟨_, List.getElem?_eq_getElem (by omega)⟩
      have hxU := List.mem_of_getElem? hx
      have hxL : x ∈ L := List.mem_of_mem_take ((mU x).1 hxU)
      have hxr := hrng x hxL
      rw [gn_some hx]
      refine WP.bdW ((indexT_eq (c := x) (by omega)).mono fun r hr2 => ?_)
      rw [← hL] at hr2
      have := hr2.2 hxL
      refine WP.iteD (fun h3 => absurd h3 (by omega)) (fun _ => ?_)
      have j9 : WP (g_law42_PrizesMoves_j9 (U, W, movE t s) k m t false) (Rnd (fun v : Nat × List (Int × Int) => v.1 ≤ U.length ∧ v.2.length ≤ v.1 ∧ ∀ c, mget v.2 c = if c ∈ U.take v.1 then 1 else 0) (fun v => U.length - v.1) (U.length - k) fun z => z = true) := by
        unfold g_law42_PrizesMoves_j9
        refine WP.iteF ?_
        rw [gn_some hx]
        refine WP.ckI (by omega) ?_
        refine WP.ckI (by omega) ?_
        refine WP.ck (by simp only [maxLen]; omega) ?_
        have := mput_ln m x 1
        (repeat' (first | with_reducible (first | refine WP.iteT ?_ | refine WP.iteF ?_ | refine WP.iteNb ?_ | refine WP.iteD (fun _ => ?_) (fun _ => ?_) | refine WP.iteE (fun _ => ?_) (fun _ => ?_) | refine WP.iteN (fun _ => ?_) (fun _ => ?_) | refine WP.iteB (fun _ => ?_) (fun _ => ?_)) | (with_reducible refine WP.ckI ?_ ?_; · omega) | (with_reducible refine WP.gn ?_ (fun _ _ => ?_); · omega) | (with_reducible refine WP.gt ?_ (fun _ _ => ?_); · omega) | with_reducible (first | refine WP.up ?_ | refine WP.letO ?_ | refine WP.ret ?_)))
        refine ⟨⟨by dsimp only; omega, by dsimp only; omega, fun c => ?_⟩, by dsimp only; omega⟩
        dsimp only
        have e : c ∈ U.take (k + 1) ↔ c ∈ U.take k ∨ c = x := by rw [take_snoc hx, List.mem_append, List.mem_singleton]
        rw [mput_get, iv]
        by_cases hc : x = c
        · rw [if_pos hc, if_pos (e.2 (.inr hc.symm))]
        · rw [if_neg hc]
          by_cases h9 : c ∈ U.take k
          · rw [if_pos h9, if_pos (e.2 (.inl h9))]
          · rw [if_neg h9, if_neg (fun h => (e.1 h).elim h9 fun h => hc h.symm)]
      refine WP.iteD (fun h3 => ?_) (fun _ => j9)
      refine WP.ckI (by omega) ?_
      obtain ⟨y, hy⟩ : ∃ y, U[k - 1]? = some y := ⟨_, List.getElem?_eq_getElem (by omega)⟩
      rw [gt_some (x := y) (by rw [show (((k : Nat) : Int) - 1).toNat = k - 1 by omega]; exact hy) (by omega)]
      have := lt_prev sU (by omega) hy hx
      rw [show (decide (y ≥ x)) = false from decide_eq_false (by omega)]
      exact j9
    · rw [List.take_of_length_le (by omega)] at iv
      exact WP.up (j2 m (by omega) iv)
  refine WP.iteN (fun h3 => absurd (show ((U.length : Nat) : Int) = s.u by omega) h3) (fun _ => ?_)
  rw [show ((((U, W, movE t s) : List Int × List Int × Int).2.1.length : Int) != s.d) = false by
    show ((W.length : Int) != s.d) = false
    rw [show (W.length : Int) = s.d by omega]; simp]
  exact j1
end Go.Proofs.YtoiiblkncbnlaaaGreat

/-
  PrizesMoves returns true for every input and changes none of its arguments. No condition beside the row's own.
-/
namespace Go.Proofs.YtoiiblkncbnlaaaGreat
open Go.DL Go.ChangeShapes Go.WideShapes Go.ChangeAt Go.RowKit
set_option maxRecDepth 100000
set_option linter.unusedVariables false
set_option linter.unusedSimpArgs false
theorem movesLaw_lifted (os : Os) (started : os.Started) (H : Type) (enc : TypeId × Value → H) :
    ReturnsInHanded {} Tryz.checked os 7 .any (Rows.prizesMovesSpec.pre6 enc Tryz.prog Tryz.f7 Rows.prizesMovesRow.domain false) (Rows.prizesMovesSpec.post enc Tryz.prog Tryz.f7 false true false false) := by
  refine returnsInHanded_of_change_sized (C := Tryz.checked) Tryz.own started (by kernel_rfl) Tryz.func7
    (ChangeSpec.witness6 (enc := enc) (C := Tryz.checked) false ⟨#[], #[.agg #[.int .i64 0, .int .i64 0, .slice none 0 0], .agg #[.int .i64 0, .slice none 0 0, .int .i64 0, .int .i64 0, .int .i64 0, .int .i64 0]], []⟩ 8 (by kernel_rfl) (by kernel_rfl) (by kernel_rfl) (by kernel_rfl)) ?_
  intro W base args ds gs before hval0 hW hcnd hwt0 _
  have hval : ∀ (j : Nat) t v, Tryz.f7.params[j]? = some t → args[j]? = some v → Value.okWide Tryz.prog W .any base t v := hval0
  have hwt : (DataW.weightsEach Tryz.prog (Tryz.f7.params.toList ++ Rows.prizesMovesSpec.plain.varTypes Tryz.prog) (ds ++ gs)).all (· ≤ reachBytes) = true := hwt0
  clear hval0 hwt0
  have hW' := hW
  obtain ⟨p, q, hA0, hV, rfl, hfz, hnd⟩ := hW
  have hA : DataW.TrodAll enc Tryz.prog W 0 (fun _ => true) true Tryz.f7.params.toList args.toList ds p := hA0
  rw [Tryz.params7] at hA hval
  obtain ⟨v0, v1, d0, d1, p0, p1, rfl, rfl, rfl, h0, h1⟩ := trodAll_two hA
  obtain ⟨rfl, rfl⟩ := trodVars_none hV
  have hw : ∀ n ∈ DataW.weightsEach Tryz.prog [24, 27] [d0, d1], n ≤ reachBytes := by
    intro n hn
    have := List.all_eq_true.1 hwt n hn
    exact of_decide_eq_true this
  simp only [DataW.weightsEach, List.mem_append] at hw
  obtain ⟨x0, r0, g0⟩ := arg_agg d_24 h0 (hval 0 24 v0 rfl rfl) (by kernel_rfl)
  have k0 := g0 fun n hn => hw n (.inl hn)
  obtain ⟨x1, r1, g1⟩ := arg_agg d_27 h1 (hval 1 27 v1 rfl rfl) (by kernel_rfl)
  have k1 := g1 fun n hn => hw n (.inr (.inl hn))
  exact law_call hW' Tryz.laidOut (by intro t ht; rw [Tryz.params7] at ht; simp at ht; rcases ht with rfl | rfl <;> exact ⟨by kernel_rfl, of_decide_eq_true (by kernel_rfl)⟩) 4 (by kernel_rfl) und4 rfl rfl
    [_, _] rfl (fun j c hj => match j, hj with
      | 0, hj => by simp at hj; subst hj; exact ⟨v0, rfl, r0⟩
      | 1, hj => by simp at hj; subst hj; exact ⟨v1, rfl, r1⟩
      | j + 2, hj => by simp at hj) (g_law42_PrizesMoves_ret (movesLaw_eq x0 x1))
theorem movesLaw_holds : Rows.PrizesMovesSaid :=
  OpenClaim.holds_of_wide 7 Tryz.f7 rfl rfl rfl rfl rfl rfl rfl ⟨rfl, rfl, rfl, rfl, rfl⟩ rfl rfl rfl rfl rfl (by kernel_rfl) Tryz.func7 (by kernel_rfl)
    (of_decide_eq_true (by kernel_rfl)) (by unfold Func.isWrapper; first | (rw [if_pos (by decide +kernel)]; kernel_rfl) | (rw [if_neg (by decide +kernel)]; exact ⟨rfl, rfl⟩))
    (fun os started H enc _ => movesLaw_lifted os started H enc)
#print axioms movesLaw_holds
end Go.Proofs.YtoiiblkncbnlaaaGreat
