/-
  Texts that belong together, one behind the other; what each of them proves, and under which conditions, its own heading says.
-/
import Derived.Test.YtimalbkjflfdoaaDoorRows
import Derived.Test.YtimalbkjflfdoaaDoorJd
/-
  Go functions as partial functions, printed by auto.py: what each returns when its partial function has a value. Conditions: those of each theorem.
-/
namespace Go.Proofs.YtimalbkjflfdoaaDoor
open Go.DL
set_option maxRecDepth 100000
set_option maxHeartbeats 4000000
set_option linter.unusedVariables false
set_option linter.unusedSimpArgs false
theorem g_strconv_AppendInt_ret {dst_1 : List UInt8} {i_2 : Int} {base_3 : Int} {r : (List UInt8) ⊕ Unit} (h : g_strconv_AppendInt dst_1 i_2 base_3 = some r) : CT Tryd.prog 40 4 [(ow 3), (di i_2), (di base_3)] [(0, (.obj (tabP Tryd.prog))), (1, (.obj (errP 1))), (2, (.obj (errP 2))), (3, (.row 5 1 (dst_1.map elB)))] (CoR 3 ghosts (fun x => ((ow 4), [(0, (.obj (tabP Tryd.prog))), (1, (.obj (errP 1))), (2, (.obj (errP 2))), (4, (.row 5 1 (x.map elB)))])) (.iface 29 (.int .i64 20)) r) := by
  refine CT.of_T Tryd.func40 (by kernel_rfl) rfl ?_
  refine T_turn [] [0, 1, 2] [] (mk 11 [(0, (ow 3)), (1, (di i_2)), (2, (di base_3))] [(0, (.obj (tabP Tryd.prog))), (1, (.obj (errP 1))), (2, (.obj (errP 2))), (3, (.row 5 1 (dst_1.map elB)))]) (by kernel_rfl) ?_
  refine T_reg [] [0, 1, 2] [] (mk 11 [(0, (ow 3)), (1, (di i_2)), (2, (di base_3))] [(0, (.obj (tabP Tryd.prog))), (1, (.obj (errP 1))), (2, (.obj (errP 2))), (3, (.row 5 1 (dst_1.map elB)))]) _ (by kernel_rfl) (z2 zt) ?_
  refine T_seq (T_parts ?_)
  refine TL_part 3 [] (mk 11 [(0, (ow 3)), (1, (di i_2)), (2, (di base_3)), (7, (ow 3)), (8, (di i_2)), (9, (di base_3))] [(0, (.obj (tabP Tryd.prog))), (1, (.obj (errP 1))), (2, (.obj (errP 2))), (3, (.row 5 1 (dst_1.map elB)))]) _ (by kernel_rfl) (z6 zt) rfl ?_
  refine TL_inlineP 15 54 [] Tryd.f54 _ rfl rfl (by kernel_rfl) Tryd.func54 rfl rfl (by decide) ?_
  refine T_turn [] [0, 1, 2] [] (mk 21 [(0, (ow 3)), (1, (di i_2)), (2, (di base_3))] [(0, (.obj (tabP Tryd.prog))), (1, (.obj (errP 1))), (2, (.obj (errP 2))), (3, (.row 5 1 (dst_1.map elB)))]) (by kernel_rfl) ?_
  refine T_reg [] [0, 1, 2] [] (mk 21 [(0, (ow 3)), (1, (di i_2)), (2, (di base_3))] [(0, (.obj (tabP Tryd.prog))), (1, (.obj (errP 1))), (2, (.obj (errP 2))), (3, (.row 5 1 (dst_1.map elB)))]) _ (by kernel_rfl) (z2 zt) ?_
  refine T_reg [] [0, 1, 2, 7] [] (mk 21 [(0, (ow 3)), (1, (di i_2)), (2, (di base_3)), (7, (dt (.int .u64 (IntKind.u64.wrap i_2))))] [(0, (.obj (tabP Tryd.prog))), (1, (.obj (errP 1))), (2, (.obj (errP 2))), (3, (.row 5 1 (dst_1.map elB)))]) _ (by kernel_rfl) (z6 zt) ?_
  refine T_seqJ (α := Int × (List UInt8)) (fun ((u_4, l_5) : Int × (List UInt8)) => (mk 21 [(0, (ow 29)), (2, (di base_3)), (7, (dt (.int .u64 u_4)))] [(0, (.obj (tabP Tryd.prog))), (1, (.obj (errP 1))), (2, (.obj (errP 2))), (29, (.row 5 1 (l_5.map elB)))])) (fun ((u_4, l_5) : Int × (List UInt8)) => g_strconv_AppendInt_j1 base_3 u_4 l_5 = some r) (fun v h => ?_) ?_
  obtain ⟨u_4, l_5⟩ := v
  refine T_seq (T_parts ?_)
  refine TL_part 3 [] (mk 21 [(0, (ow 29)), (2, (di base_3)), (7, (dt (.int .u64 u_4))), (17, (ow 29)), (18, (dt (.int .u64 u_4))), (19, (di base_3))] [(0, (.obj (tabP Tryd.prog))), (1, (.obj (errP 1))), (2, (.obj (errP 2))), (29, (.row 5 1 (l_5.map elB)))]) _ (by kernel_rfl) (z6 zt) rfl ?_
  obtain ⟨c6, h⟩ := ck_inv h
  obtain ⟨c7, h⟩ := ck_inv h
  obtain ⟨c8, h⟩ := ck_inv h
  refine TL_appUint Tryd.lappend 20 0 35 (some 29) l_5 u_4 c8 rfl rfl rfl (by kernel_rfl) (by kernel_rfl) (by kernel_rfl) (by kernel_rfl) c7 (by kernel_rfl) c6 (by kernel_rfl) ?_
  refine TL_turn [] [20] [] (mk 21 [(20, (ow 35))] [(35, (.row 5 1 ((l_5 ++ Lib.decDigits u_4.toNat).map elB))), (0, (.obj (tabP Tryd.prog))), (1, (.obj (errP 1))), (2, (.obj (errP 2)))]) (by kernel_rfl) ?_
  refine TL_part 1 [] (mk 21 [(6, (ow 35)), (20, (ow 35))] [(35, (.row 5 1 ((l_5 ++ Lib.decDigits u_4.toNat).map elB))), (0, (.obj (tabP Tryd.prog))), (1, (.obj (errP 1))), (2, (.obj (errP 2)))]) _ (by kernel_rfl) (z2 zt) rfl ?_
  refine TL_nilQ ?_
  refine T_turn [] [6] [] (mk 21 [(6, (ow 35))] [(35, (.row 5 1 ((l_5 ++ Lib.decDigits u_4.toNat).map elB))), (0, (.obj (tabP Tryd.prog))), (1, (.obj (errP 1))), (2, (.obj (errP 2)))]) (by kernel_rfl) ?_
  refine T_ret ?_
  refine ⟨[(ow 35)], by kernel_rfl, ?_⟩
  refine TL_turn [] [10] [] (mk 11 [(10, (ow 35))] [(35, (.row 5 1 ((l_5 ++ Lib.decDigits u_4.toNat).map elB))), (0, (.obj (tabP Tryd.prog))), (1, (.obj (errP 1))), (2, (.obj (errP 2)))]) (by kernel_rfl) ?_
  refine TL_part 1 [] (mk 11 [(6, (ow 35)), (10, (ow 35))] [(35, (.row 5 1 ((l_5 ++ Lib.decDigits u_4.toNat).map elB))), (0, (.obj (tabP Tryd.prog))), (1, (.obj (errP 1))), (2, (.obj (errP 2)))]) _ (by kernel_rfl) (z2 zt) rfl ?_
  refine TL_nilQ ?_
  refine T_turn [] [6] [] (mk 11 [(6, (ow 35))] [(35, (.row 5 1 ((l_5 ++ Lib.decDigits u_4.toNat).map elB))), (0, (.obj (tabP Tryd.prog))), (1, (.obj (errP 1))), (2, (.obj (errP 2)))]) (by kernel_rfl) ?_
  refine T_arr [.ren 35 4] [6] [35] [0, 1, 2, 4] (mk 11 [(6, (ow 4))] [(0, (.obj (tabP Tryd.prog))), (1, (.obj (errP 1))), (2, (.obj (errP 2))), (4, (.row 5 1 ((l_5 ++ Lib.decDigits u_4.toNat).map elB)))]) (by kernel_rfl) ?_
  refine T_ret ?_
  obtain rfl := some_inv h
  exact ⟨[(ow 4)], by kernel_rfl, rfl⟩
  refine T_reg [] [0, 2, 7, 11] [] (mk 21 [(0, (ow 3)), (2, (di base_3)), (7, (dt (.int .u64 (IntKind.u64.wrap i_2)))), (11, (db (decide (i_2 < 0))))] [(0, (.obj (tabP Tryd.prog))), (1, (.obj (errP 1))), (2, (.obj (errP 2))), (3, (.row 5 1 (dst_1.map elB)))]) _ (by kernel_rfl) (z4 zt) ?_
  refine T_cond (decide (i_2 < 0)) (by kernel_rfl) (fun b9 => ?_) (fun b9 => ?_)
  replace h := ite_t b9 h
  obtain ⟨c10, h⟩ := ck_inv h
  refine T_reg [zn, zn, (zd (.sl 1 ((dst_1 ++ ([45] : List UInt8)).map elB)))] [0, 2, 7] [28] (mk 21 [(0, (ow 29)), (2, (di base_3)), (7, (dt (.int .u64 (IntKind.u64.wrap i_2))))] [(29, (.row 5 1 ((dst_1 ++ ([45] : List UInt8)).map elB))), (0, (.obj (tabP Tryd.prog))), (1, (.obj (errP 1))), (2, (.obj (errP 2)))]) _ (by kernel_rfl) (z3 (zc (show dfill (fun i => some (i * 1, 1)) (List.replicate (1 * 1) .junk) [(0, [(.dat (.int .u8 45))])] = some ((flat (([45] : List UInt8).map elB)).map .dat) from rfl) (z1 (zc (app_s elB elB_one dst_1 ([45] : List UInt8) c10) (z2 zt))))) ?_
  exact T_regJ [] [] [0, 2, 7] [] [0, 1, 2, 29] _ _ (by kernel_rfl) (z6 zt) (fun s hs => Exists.intro ((IntKind.u64.wrap (0 - (IntKind.u64.wrap i_2))), (dst_1 ++ ([45] : List UInt8))) (And.intro h hs))
  replace h := ite_f b9 h
  refine T_skip ?_
  exact Exists.intro ((IntKind.u64.wrap i_2), dst_1) (And.intro h (arr [.ren 3 29] [0, 2, 7] [] [0, 1, 2, 29] (by kernel_rfl)))

theorem g_codec_text_ret {b_1 : List UInt8} {s_2 : List UInt8} {r : (List UInt8) ⊕ Unit} (h : g_codec_text b_1 s_2 = some r) : CT Tryd.prog 42 4 [(ow 3), (dt (.str s_2))] [(0, (.obj (tabP Tryd.prog))), (1, (.obj (errP 1))), (2, (.obj (errP 2))), (3, (.row 5 1 (b_1.map elB)))] (CoR 3 ghosts (fun x => ((ow 4), [(0, (.obj (tabP Tryd.prog))), (1, (.obj (errP 1))), (2, (.obj (errP 2))), (4, (.row 5 1 (x.map elB)))])) (.iface 29 (.int .i64 20)) r) := by
  refine CT.of_T Tryd.func42 (by kernel_rfl) rfl ?_
  refine T_turn [] [0, 1] [] (mk 13 [(0, (ow 3)), (1, (dt (.str s_2)))] [(0, (.obj (tabP Tryd.prog))), (1, (.obj (errP 1))), (2, (.obj (errP 2))), (3, (.row 5 1 (b_1.map elB)))]) (by kernel_rfl) ?_
  refine T_reg [] [0, 1] [] (mk 13 [(0, (ow 3)), (1, (dt (.str s_2)))] [(0, (.obj (tabP Tryd.prog))), (1, (.obj (errP 1))), (2, (.obj (errP 2))), (3, (.row 5 1 (b_1.map elB)))]) _ (by kernel_rfl) (z2 zt) ?_
  refine T_seq (T_parts ?_)
  refine TL_part 3 [] (mk 13 [(0, (ow 3)), (1, (dt (.str s_2))), (5, (ow 3)), (6, (dt (.str s_2))), (7, (di ((s_2.length : Nat) : Int)))] [(0, (.obj (tabP Tryd.prog))), (1, (.obj (errP 1))), (2, (.obj (errP 2))), (3, (.row 5 1 (b_1.map elB)))]) _ (by kernel_rfl) (z6 zt) rfl ?_
  obtain ⟨y4, e5, hk6, hz7⟩ := bdP_inv h
  refine TL_ct 40 [0, 1, 2, 3] 100004 _ _ [] (g_strconv_AppendInt_ret e5) rfl rfl (by kernel_rfl) (by kernel_rfl) (by kernel_rfl) (by kernel_rfl) (fun l bx' hR => ?_) (fun d bx' hR => ?_)
  obtain ⟨r_3, rfl, rfl, rfl⟩ := CoR_ret hR
  replace h := hk6 _ rfl
  refine TL_turn [] [1, 8] [] (mk 13 [(1, (dt (.str s_2))), (8, (ow 100004))] [(0, (.obj (tabP Tryd.prog))), (1, (.obj (errP 1))), (2, (.obj (errP 2))), (100004, (.row 5 1 (r_3.map elB)))]) (by kernel_rfl) ?_
  obtain ⟨c8, h⟩ := ck_inv h
  obtain ⟨c9, h⟩ := ck_inv h
  refine TL_part 5 [zn, (zd (.sl 1 ((r_3 ++ ([58] : List UInt8)).map elB))), zn, (zd (.sl 1 (((r_3 ++ ([58] : List UInt8)) ++ s_2).map elB)))] (mk 13 [(1, (dt (.str s_2))), (4, (ow 16)), (9, (ow 13)), (11, (dt (.str s_2))), (12, (ow 16))] [(16, (.row 5 1 (((r_3 ++ ([58] : List UInt8)) ++ s_2).map elB))), (13, (.row 5 1 (([58] : List UInt8).map elB))), (0, (.obj (tabP Tryd.prog))), (1, (.obj (errP 1))), (2, (.obj (errP 2)))]) _ (by kernel_rfl) (z1 (zc (show dfill (fun i => some (i * 1, 1)) (List.replicate (1 * 1) .junk) [(0, [(.dat (.int .u8 58))])] = some ((flat (([58] : List UInt8).map elB)).map .dat) from rfl) (z1 (zc (app_s elB elB_one r_3 ([58] : List UInt8) c8) (z3 (zc (app_s elB elB_one (r_3 ++ ([58] : List UInt8)) s_2 c9) (z2 zt))))))) rfl ?_
  refine TL_nilQ ?_
  refine T_turn [] [4] [13] (mk 13 [(4, (ow 16))] [(16, (.row 5 1 (((r_3 ++ ([58] : List UInt8)) ++ s_2).map elB))), (0, (.obj (tabP Tryd.prog))), (1, (.obj (errP 1))), (2, (.obj (errP 2)))]) (by kernel_rfl) ?_
  refine T_arr [.ren 16 4] [4] [16] [0, 1, 2, 4] (mk 13 [(4, (ow 4))] [(0, (.obj (tabP Tryd.prog))), (1, (.obj (errP 1))), (2, (.obj (errP 2))), (4, (.row 5 1 (((r_3 ++ ([58] : List UInt8)) ++ s_2).map elB)))]) (by kernel_rfl) ?_
  refine T_ret ?_
  obtain rfl := some_inv h
  exact ⟨[(ow 4)], by kernel_rfl, rfl⟩
  obtain ⟨rfl, rfl, hlk⟩ := CoR_pan hR
  replace h := hz7 rfl
  obtain rfl := some_inv h
  exact (show _ ∧ _ from ⟨rfl, ⟨_, rfl, lk3 ((after_lk (by kernel_rfl) rfl).trans (by rw [hlk 0 (by decide)]; kernel_rfl)) ((after_lk (by kernel_rfl) rfl).trans (by rw [hlk 1 (by decide)]; kernel_rfl)) ((after_lk (by kernel_rfl) rfl).trans (by rw [hlk 2 (by decide)]; kernel_rfl))⟩⟩)

theorem g_codec_newWriter_1_ret {b_1 : List UInt8} {v_2 : Val} {r : (List UInt8) ⊕ Unit} (h : g_codec_newWriter_1 b_1 v_2 = some r) : CT Tryd.prog 39 4 [(ow 3), (.agg (qVal v_2))] [(0, (.obj (tabP Tryd.prog))), (1, (.obj (errP 1))), (2, (.obj (errP 2))), (3, (.row 5 1 (b_1.map elB)))] (CoR 3 ghosts (fun x => ((ow 4), [(0, (.obj (tabP Tryd.prog))), (1, (.obj (errP 1))), (2, (.obj (errP 2))), (4, (.row 5 1 (x.map elB)))])) (.iface 29 (.int .i64 20)) r) := by
  refine CT.of_T Tryd.func39 (by kernel_rfl) rfl ?_
  refine T_turn [] [0, 1] [] (mk 13 [(0, (ow 3)), (1, (.agg (qVal v_2)))] [(0, (.obj (tabP Tryd.prog))), (1, (.obj (errP 1))), (2, (.obj (errP 2))), (3, (.row 5 1 (b_1.map elB)))]) (by kernel_rfl) ?_
  refine T_reg [] [0, 3] [] (mk 13 [(0, (ow 3)), (3, (rf 7 0))] [(7, (.var (qVal v_2))), (0, (.obj (tabP Tryd.prog))), (1, (.obj (errP 1))), (2, (.obj (errP 2))), (3, (.row 5 1 (b_1.map elB)))]) _ (by kernel_rfl) (z4 zt) ?_
  refine T_arr [] [0, 3] [] [0, 1, 2, 3, 7] (mk 13 [(0, (ow 3)), (3, (rf 7 0))] [(0, (.obj (tabP Tryd.prog))), (1, (.obj (errP 1))), (2, (.obj (errP 2))), (3, (.row 5 1 (b_1.map elB))), (7, (.var (qVal v_2)))]) (by kernel_rfl) ?_
  obtain ⟨c3, h⟩ := ck_inv h
  obtain ⟨y5, e6, hk7, hz8⟩ := bdP_inv h
  rcases y5 with r_4 | u
  replace h := hk7 _ rfl
  obtain ⟨c9, h⟩ := ck_inv h
  refine T_seq (T_stC [{}, {}, { h := zd (.sl 1 ((b_1 ++ ([105] : List UInt8)).map elB)) }, {}, {}, {}, {}, { h := zd (.sl 1 ((r_4 ++ ([101] : List UInt8)).map elB)) }, {}] _ [(0, 5, (ow 3)), (1, 6, (ow 10)), (2, 0, J), (2, 5, J), (2, 7, (ow 11)), (3, 8, (rf 7 1)), (4, 9, (di v_2.n)), (5, 7, J), (5, 10, (ow 100004)), (6, 11, (ow 15)), (7, 10, J), (7, 12, (ow 16)), (8, 4, (ow 16))] [(1, 10, some (.row 5 1 (([105] : List UInt8).map elB))), (2, 3, none), (2, 11, some (.row 5 1 ((b_1 ++ ([105] : List UInt8)).map elB))), (5, 11, none), (5, 100004, some (.row 5 1 (r_4.map elB))), (6, 15, some (.row 5 1 (([101] : List UInt8).map elB))), (7, 16, some (.row 5 1 ((r_4 ++ ([101] : List UInt8)).map elB))), (7, 100004, none)] [0, 1, 2, 3, 7, 10, 11, 15, 16, 100004] 9 [0, 0, 3, 0, 8, 31, 0, 127, 255] 230 [0, 2, 6, 38, 64, 66, 70, 102, 230] [5] none (by kernel_rfl) (by decide) (by kernel_rfl) (by kernel_rfl) (by kernel_rfl) (by kernel_rfl) (by kernel_rfl) (by kernel_rfl) (by kernel_rfl) (zs zt (zs (zc zt (show dfill (fun i => some (i * 1, 1)) (List.replicate (1 * 1) .junk) [(0, [(.dat (.int .u8 105))])] = some ((flat (([105] : List UInt8).map elB)).map .dat) from rfl)) (zs (zc zt (app_s elB elB_one b_1 ([105] : List UInt8) c3)) (zs zt (zs zt (zs zt (zs (zc zt (show dfill (fun i => some (i * 1, 1)) (List.replicate (1 * 1) .junk) [(0, [(.dat (.int .u8 101))])] = some ((flat (([101] : List UInt8).map elB)).map .dat) from rfl)) (zs (zc zt (app_s elB elB_one r_4 ([101] : List UInt8) c9)) (zs zt zS))))))))) ?_ (fun _ => ?_))
  intro c hc; simp only [List.mem_cons, List.not_mem_nil, or_false] at hc; rcases hc with rfl
  exact ⟨_, rfl, callU (hand := [0, 1, 2, 11]) (nb := 100004) [] (g_strconv_AppendInt_ret e6) [0, 1, 2, 3, 7, 10, 11, 15, 16, 100004] (by decide) rfl rfl 5 _ _ _ (by kernel_rfl) (by kernel_rfl) (by kernel_rfl) (by kernel_rfl) (by kernel_rfl) (by kernel_rfl)⟩
  refine T_turn [] [4] [7, 10, 15] (mk 13 [(4, (ow 16))] [(0, (.obj (tabP Tryd.prog))), (1, (.obj (errP 1))), (2, (.obj (errP 2))), (16, (.row 5 1 ((r_4 ++ ([101] : List UInt8)).map elB)))]) (by kernel_rfl) ?_
  refine T_arr [.ren 16 4] [4] [16] [0, 1, 2, 4] (mk 13 [(4, (ow 4))] [(0, (.obj (tabP Tryd.prog))), (1, (.obj (errP 1))), (2, (.obj (errP 2))), (4, (.row 5 1 ((r_4 ++ ([101] : List UInt8)).map elB)))]) (by kernel_rfl) ?_
  refine T_ret ?_
  obtain rfl := some_inv h
  exact ⟨[(ow 4)], by kernel_rfl, rfl⟩
  replace h := hz8 rfl
  obtain rfl := some_inv h
  refine T_seq (T_stC [{}, {}, { h := zd (.sl 1 ((b_1 ++ ([105] : List UInt8)).map elB)) }, {}, {}, {}, {}, {}, {}] _ [(0, 5, (ow 3)), (1, 6, (ow 10)), (2, 0, J), (2, 5, J), (2, 7, (ow 11)), (3, 8, (rf 7 1)), (4, 9, (di v_2.n)), (6, 11, (ow 15))] [(1, 10, some (.row 5 1 (([105] : List UInt8).map elB))), (2, 3, none), (2, 11, some (.row 5 1 ((b_1 ++ ([105] : List UInt8)).map elB))), (6, 15, some (.row 5 1 (([101] : List UInt8).map elB)))] [0, 1, 2, 3, 7, 10, 11, 15] 9 [0, 0, 3, 0, 8, 31, 0, 127, 255] 486 [0, 2, 6, 64, 66, 70] [5] (some 5) (by kernel_rfl) (by decide) (by kernel_rfl) (by kernel_rfl) (by kernel_rfl) (by kernel_rfl) (by kernel_rfl) (by kernel_rfl) (by kernel_rfl) (zs zt (zs (zc zt (show dfill (fun i => some (i * 1, 1)) (List.replicate (1 * 1) .junk) [(0, [(.dat (.int .u8 105))])] = some ((flat (([105] : List UInt8).map elB)).map .dat) from rfl)) (zs (zc zt (app_s elB elB_one b_1 ([105] : List UInt8) c3)) (zs zt (zs zt (zs zt (zs (zc zt (show dfill (fun i => some (i * 1, 1)) (List.replicate (1 * 1) .junk) [(0, [(.dat (.int .u8 101))])] = some ((flat (([101] : List UInt8).map elB)).map .dat) from rfl)) (zs zt (zs zt zS))))))))) ?_ (fun h => absurd h (by decide)))
  intro c hc; simp only [List.mem_cons, List.not_mem_nil, or_false] at hc; rcases hc with rfl
  refine ⟨_, rfl, callP (hand := [0, 1, 2, 11]) (nb := 100004) [] (g_strconv_AppendInt_ret e6) rfl rfl 5 _ _ _ (by kernel_rfl) (by kernel_rfl) (by kernel_rfl) (by kernel_rfl) (fun _ _ hlk => ?_)⟩
  exact (show _ ∧ _ from ⟨rfl, ⟨_, rfl, lk3 ((after_lk (by kernel_rfl) rfl).trans (by rw [hlk 0 (by decide)]; kernel_rfl)) ((after_lk (by kernel_rfl) rfl).trans (by rw [hlk 1 (by decide)]; kernel_rfl)) ((after_lk (by kernel_rfl) rfl).trans (by rw [hlk 2 (by decide)]; kernel_rfl))⟩⟩)

theorem g_codec_newWriter_2_ret {b_1 : List UInt8} {v_2 : Val} {r : (List UInt8) ⊕ Unit} (h : g_codec_newWriter_2 b_1 v_2 = some r) : CT Tryd.prog 41 4 [(ow 3), (.agg (qVal v_2))] [(0, (.obj (tabP Tryd.prog))), (1, (.obj (errP 1))), (2, (.obj (errP 2))), (3, (.row 5 1 (b_1.map elB)))] (CoR 3 ghosts (fun x => ((ow 4), [(0, (.obj (tabP Tryd.prog))), (1, (.obj (errP 1))), (2, (.obj (errP 2))), (4, (.row 5 1 (x.map elB)))])) (.iface 29 (.int .i64 20)) r) := by
  refine CT.of_T Tryd.func41 (by kernel_rfl) rfl ?_
  refine T_turn [] [0, 1] [] (mk 9 [(0, (ow 3)), (1, (.agg (qVal v_2)))] [(0, (.obj (tabP Tryd.prog))), (1, (.obj (errP 1))), (2, (.obj (errP 2))), (3, (.row 5 1 (b_1.map elB)))]) (by kernel_rfl) ?_
  refine T_reg [] [0, 3] [] (mk 9 [(0, (ow 3)), (3, (rf 7 0))] [(7, (.var (qVal v_2))), (0, (.obj (tabP Tryd.prog))), (1, (.obj (errP 1))), (2, (.obj (errP 2))), (3, (.row 5 1 (b_1.map elB)))]) _ (by kernel_rfl) (z4 zt) ?_
  refine T_seq (T_parts ?_)
  refine TL_part 3 [] (mk 9 [(0, (ow 3)), (3, (rf 7 0)), (5, (ow 3)), (6, (rf 7 2)), (7, (dt (.str v_2.s)))] [(7, (.var (qVal v_2))), (0, (.obj (tabP Tryd.prog))), (1, (.obj (errP 1))), (2, (.obj (errP 2))), (3, (.row 5 1 (b_1.map elB)))]) _ (by kernel_rfl) (z6 zt) rfl ?_
  obtain ⟨y4, e5, hk6, hz7⟩ := bdP_inv h
  refine TL_ct 42 [0, 1, 2, 3] 100004 _ _ [] (g_codec_text_ret e5) rfl rfl (by kernel_rfl) (by kernel_rfl) (by kernel_rfl) (by kernel_rfl) (fun l bx' hR => ?_) (fun d bx' hR => ?_)
  obtain ⟨r_3, rfl, rfl, rfl⟩ := CoR_ret hR
  replace h := hk6 _ rfl
  refine TL_turn [] [8] [7] (mk 9 [(8, (ow 100004))] [(0, (.obj (tabP Tryd.prog))), (1, (.obj (errP 1))), (2, (.obj (errP 2))), (100004, (.row 5 1 (r_3.map elB)))]) (by kernel_rfl) ?_
  refine TL_part 1 [] (mk 9 [(4, (ow 100004)), (8, (ow 100004))] [(0, (.obj (tabP Tryd.prog))), (1, (.obj (errP 1))), (2, (.obj (errP 2))), (100004, (.row 5 1 (r_3.map elB)))]) _ (by kernel_rfl) (z2 zt) rfl ?_
  refine TL_nilQ ?_
  refine T_turn [] [4] [] (mk 9 [(4, (ow 100004))] [(0, (.obj (tabP Tryd.prog))), (1, (.obj (errP 1))), (2, (.obj (errP 2))), (100004, (.row 5 1 (r_3.map elB)))]) (by kernel_rfl) ?_
  refine T_arr [.ren 100004 4] [4] [100004] [0, 1, 2, 4] (mk 9 [(4, (ow 4))] [(0, (.obj (tabP Tryd.prog))), (1, (.obj (errP 1))), (2, (.obj (errP 2))), (4, (.row 5 1 (r_3.map elB)))]) (by kernel_rfl) ?_
  refine T_ret ?_
  obtain rfl := some_inv h
  exact ⟨[(ow 4)], by kernel_rfl, rfl⟩
  obtain ⟨rfl, rfl, hlk⟩ := CoR_pan hR
  replace h := hz7 rfl
  obtain rfl := some_inv h
  exact (show _ ∧ _ from ⟨rfl, ⟨_, rfl, lk3 ((after_lk (by kernel_rfl) rfl).trans (by rw [hlk 0 (by decide)]; kernel_rfl)) ((after_lk (by kernel_rfl) rfl).trans (by rw [hlk 1 (by decide)]; kernel_rfl)) ((after_lk (by kernel_rfl) rfl).trans (by rw [hlk 2 (by decide)]; kernel_rfl))⟩⟩)

theorem g_codec_newWriter_3_s_ret {rc43 rc44 : (List UInt8) → (Val) → Option ((List UInt8) ⊕ Unit)} (hrc43 : ∀ {b_1 : List UInt8} {v_2 : Val} {r : (List UInt8) ⊕ Unit}, rc43 b_1 v_2 = some r → CT Tryd.prog 43 6 [(ow 5), (.agg (qVal v_2)), (rf 3 0)] [(0, (.obj (tabP Tryd.prog))), (1, (.obj (errP 1))), (2, (.obj (errP 2))), (3, (.var [(.ref 4 0)])), (4, (.var [(.dat (.con .nilFunc)), (.fn 39 []), (.fn 41 []), (.fn 43 [.inl 3]), (.fn 44 [.inl 3])])), (5, (.row 5 1 (b_1.map elB)))] (CoR 3 ghosts (fun x => ((ow 6), [(0, (.obj (tabP Tryd.prog))), (1, (.obj (errP 1))), (2, (.obj (errP 2))), (3, (.var [(.ref 4 0)])), (4, (.var [(.dat (.con .nilFunc)), (.fn 39 []), (.fn 41 []), (.fn 43 [.inl 3]), (.fn 44 [.inl 3])])), (6, (.row 5 1 (x.map elB)))])) (.iface 29 (.int .i64 20)) r)) (hrc44 : ∀ {b_1 : List UInt8} {v_2 : Val} {r : (List UInt8) ⊕ Unit}, rc44 b_1 v_2 = some r → CT Tryd.prog 44 6 [(ow 5), (.agg (qVal v_2)), (rf 3 0)] [(0, (.obj (tabP Tryd.prog))), (1, (.obj (errP 1))), (2, (.obj (errP 2))), (3, (.var [(.ref 4 0)])), (4, (.var [(.dat (.con .nilFunc)), (.fn 39 []), (.fn 41 []), (.fn 43 [.inl 3]), (.fn 44 [.inl 3])])), (5, (.row 5 1 (b_1.map elB)))] (CoR 3 ghosts (fun x => ((ow 6), [(0, (.obj (tabP Tryd.prog))), (1, (.obj (errP 1))), (2, (.obj (errP 2))), (3, (.var [(.ref 4 0)])), (4, (.var [(.dat (.con .nilFunc)), (.fn 39 []), (.fn 41 []), (.fn 43 [.inl 3]), (.fn 44 [.inl 3])])), (6, (.row 5 1 (x.map elB)))])) (.iface 29 (.int .i64 20)) r)) {b_1 : List UInt8} {v_2 : Val} {r : (List UInt8) ⊕ Unit} (h : g_codec_newWriter_3_s rc43 rc44 b_1 v_2 = some r) : CT Tryd.prog 43 6 [(ow 5), (.agg (qVal v_2)), (rf 3 0)] [(0, (.obj (tabP Tryd.prog))), (1, (.obj (errP 1))), (2, (.obj (errP 2))), (3, (.var [(.ref 4 0)])), (4, (.var [(.dat (.con .nilFunc)), (.fn 39 []), (.fn 41 []), (.fn 43 [.inl 3]), (.fn 44 [.inl 3])])), (5, (.row 5 1 (b_1.map elB)))] (CoR 3 ghosts (fun x => ((ow 6), [(0, (.obj (tabP Tryd.prog))), (1, (.obj (errP 1))), (2, (.obj (errP 2))), (3, (.var [(.ref 4 0)])), (4, (.var [(.dat (.con .nilFunc)), (.fn 39 []), (.fn 41 []), (.fn 43 [.inl 3]), (.fn 44 [.inl 3])])), (6, (.row 5 1 (x.map elB)))])) (.iface 29 (.int .i64 20)) r) := by
  refine CT.of_T Tryd.func43 (by kernel_rfl) rfl ?_
  refine T_turn [] [0, 1, 2] [] (mk 32 [(0, (ow 5)), (1, (.agg (qVal v_2))), (2, (rf 3 0))] [(0, (.obj (tabP Tryd.prog))), (1, (.obj (errP 1))), (2, (.obj (errP 2))), (3, (.var [(.ref 4 0)])), (4, (.var [(.dat (.con .nilFunc)), (.fn 39 []), (.fn 41 []), (.fn 43 [.inl 3]), (.fn 44 [.inl 3])])), (5, (.row 5 1 (b_1.map elB)))]) (by kernel_rfl) ?_
  refine T_reg [] [0, 2, 4] [] (mk 32 [(0, (ow 5)), (2, (rf 3 0)), (4, (rf 10 0))] [(10, (.var (qVal v_2))), (0, (.obj (tabP Tryd.prog))), (1, (.obj (errP 1))), (2, (.obj (errP 2))), (3, (.var [(.ref 4 0)])), (4, (.var [(.dat (.con .nilFunc)), (.fn 39 []), (.fn 41 []), (.fn 43 [.inl 3]), (.fn 44 [.inl 3])])), (5, (.row 5 1 (b_1.map elB)))]) _ (by kernel_rfl) (z4 zt) ?_
  obtain ⟨c3, h⟩ := ck_inv h
  refine T_reg [zn, zn, (zd (.sl 1 ((b_1 ++ ([108] : List UInt8)).map elB)))] [0, 2, 4] [15] (mk 32 [(0, (ow 16)), (2, (rf 3 0)), (4, (rf 10 0))] [(16, (.row 5 1 ((b_1 ++ ([108] : List UInt8)).map elB))), (10, (.var (qVal v_2))), (0, (.obj (tabP Tryd.prog))), (1, (.obj (errP 1))), (2, (.obj (errP 2))), (3, (.var [(.ref 4 0)])), (4, (.var [(.dat (.con .nilFunc)), (.fn 39 []), (.fn 41 []), (.fn 43 [.inl 3]), (.fn 44 [.inl 3])]))]) _ (by kernel_rfl) (z3 (zc (show dfill (fun i => some (i * 1, 1)) (List.replicate (1 * 1) .junk) [(0, [(.dat (.int .u8 108))])] = some ((flat (([108] : List UInt8).map elB)).map .dat) from rfl) (z1 (zc (app_s elB elB_one b_1 ([108] : List UInt8) c3) (z2 zt))))) ?_
  refine T_seqJ (α := List UInt8) (fun (l_4 : List UInt8) => (mk 32 [(0, (ow 16))] [(0, (.obj (tabP Tryd.prog))), (1, (.obj (errP 1))), (2, (.obj (errP 2))), (3, (.var [(.ref 4 0)])), (4, (.var [(.dat (.con .nilFunc)), (.fn 39 []), (.fn 41 []), (.fn 43 [.inl 3]), (.fn 44 [.inl 3])])), (16, (.row 5 1 (l_4.map elB)))])) (fun (l_4 : List UInt8) => g_codec_newWriter_3_s_j1 l_4 = some r) (fun l_4 h => ?_) ?_
  obtain ⟨c5, h⟩ := ck_inv h
  refine T_reg [zn, zn, (zd (.sl 1 ((l_4 ++ ([101] : List UInt8)).map elB)))] [5] [36] (mk 32 [(5, (ow 37))] [(37, (.row 5 1 ((l_4 ++ ([101] : List UInt8)).map elB))), (0, (.obj (tabP Tryd.prog))), (1, (.obj (errP 1))), (2, (.obj (errP 2))), (3, (.var [(.ref 4 0)])), (4, (.var [(.dat (.con .nilFunc)), (.fn 39 []), (.fn 41 []), (.fn 43 [.inl 3]), (.fn 44 [.inl 3])]))]) _ (by kernel_rfl) (z3 (zc (show dfill (fun i => some (i * 1, 1)) (List.replicate (1 * 1) .junk) [(0, [(.dat (.int .u8 101))])] = some ((flat (([101] : List UInt8).map elB)).map .dat) from rfl) (z1 (zc (app_s elB elB_one l_4 ([101] : List UInt8) c5) (z2 zt))))) ?_
  refine T_arr [.ren 37 6] [5] [37] [0, 1, 2, 3, 4, 6] (mk 32 [(5, (ow 6))] [(0, (.obj (tabP Tryd.prog))), (1, (.obj (errP 1))), (2, (.obj (errP 2))), (3, (.var [(.ref 4 0)])), (4, (.var [(.dat (.con .nilFunc)), (.fn 39 []), (.fn 41 []), (.fn 43 [.inl 3]), (.fn 44 [.inl 3])])), (6, (.row 5 1 ((l_4 ++ ([101] : List UInt8)).map elB)))]) (by kernel_rfl) ?_
  refine T_ret ?_
  obtain rfl := some_inv h
  exact ⟨[(ow 6)], by kernel_rfl, rfl⟩
  refine T_reg [zn, zn, (zd (I ((v_2.l.length : Nat) : Int)))] [0, 2, 12, 13, 14] [10] (mk 32 [(0, (ow 16)), (2, (rf 3 0)), (12, (dt (.sl 5 (v_2.l.map encVal)))), (13, (di ((v_2.l.length : Nat) : Int))), (14, (di 0))] [(16, (.row 5 1 ((b_1 ++ ([108] : List UInt8)).map elB))), (0, (.obj (tabP Tryd.prog))), (1, (.obj (errP 1))), (2, (.obj (errP 2))), (3, (.var [(.ref 4 0)])), (4, (.var [(.dat (.con .nilFunc)), (.fn 39 []), (.fn 41 []), (.fn 43 [.inl 3]), (.fn 44 [.inl 3])]))]) _ (by kernel_rfl) (z5 (zc (len_s encVal v_2.l) (z2 zt))) ?_
  refine T_block ?_
  refine T_arr [] [0, 2, 12, 13, 14] [] [0, 1, 2, 3, 4, 16] _ (by kernel_rfl) (T_loopO (σ := Nat × (List UInt8)) (fun ((v_6, l_7) : Nat × (List UInt8)) => (mk 32 [(0, (ow 16)), (2, (rf 3 0)), (12, (dt (.sl 5 (v_2.l.map encVal)))), (13, (di ((v_2.l.length : Nat) : Int))), (14, (di ((v_6 : Nat) : Int)))] [(0, (.obj (tabP Tryd.prog))), (1, (.obj (errP 1))), (2, (.obj (errP 2))), (3, (.var [(.ref 4 0)])), (4, (.var [(.dat (.con .nilFunc)), (.fn 39 []), (.fn 41 []), (.fn 43 [.inl 3]), (.fn 44 [.inl 3])])), (16, (.row 5 1 (l_7.map elB)))])) (g_codec_newWriter_3_s_l2 v_2 rc43 rc44) (0, (b_1 ++ ([108] : List UInt8))) h (fun v y1 hy1 h => ?_))
  obtain ⟨v_6, l_7⟩ := v
  refine T_reg [] [0, 2, 12, 13, 14, 15] [] (mk 32 [(0, (ow 16)), (2, (rf 3 0)), (12, (dt (.sl 5 (v_2.l.map encVal)))), (13, (di ((v_2.l.length : Nat) : Int))), (14, (di ((v_6 : Nat) : Int))), (15, (db (decide (((v_6 : Nat) : Int) < ((v_2.l.length : Nat) : Int)))))] [(0, (.obj (tabP Tryd.prog))), (1, (.obj (errP 1))), (2, (.obj (errP 2))), (3, (.var [(.ref 4 0)])), (4, (.var [(.dat (.con .nilFunc)), (.fn 39 []), (.fn 41 []), (.fn 43 [.inl 3]), (.fn 44 [.inl 3])])), (16, (.row 5 1 (l_7.map elB)))]) _ (by kernel_rfl) (z2 zt) ?_
  refine T_seq ?_
  refine T_cond (decide (((v_6 : Nat) : Int) < ((v_2.l.length : Nat) : Int))) (by kernel_rfl) (fun b10 => ?_) (fun b10 => ?_)
  replace h := ite_t b10 h
  refine T_skip ?_
  refine T_seqJ (α := List UInt8) (fun (l_11 : List UInt8) => (mk 32 [(0, (ow 100006)), (2, (rf 3 0)), (12, (dt (.sl 5 (v_2.l.map encVal)))), (13, (di ((v_2.l.length : Nat) : Int))), (14, (di ((v_6 : Nat) : Int)))] [(0, (.obj (tabP Tryd.prog))), (1, (.obj (errP 1))), (2, (.obj (errP 2))), (3, (.var [(.ref 4 0)])), (4, (.var [(.dat (.con .nilFunc)), (.fn 39 []), (.fn 41 []), (.fn 43 [.inl 3]), (.fn 44 [.inl 3])])), (100006, (.row 5 1 (l_11.map elB)))])) (fun (l_11 : List UInt8) => g_codec_newWriter_3_s_j3 v_6 v_2 l_11 = some y1) (fun l_11 h => ?_) ?_
  obtain ⟨c12, h⟩ := ckI_inv h
  exact T_regJ [(zd (I ((v_6 + 1 : Nat) : Int)))] [.ren 100006 16] [0, 2, 12, 13, 14] [] [0, 1, 2, 3, 4, 16] _ _ (by kernel_rfl) (z1 (zc c12 (z2 zt))) (fun s hs => Exists.intro (v_6 + 1, l_11) (And.intro h hs))
  refine T_block ?_
  obtain ⟨x_13, e14, e15, e16, h⟩ := gn_invE encVal ndcVal encVal_nd h
  refine T_reg [(zd (ndcVal x_13))] [0, 2, 7, 12, 13, 14] [] (mk 32 [(0, (ow 16)), (2, (rf 3 0)), (7, (rf 13 0)), (12, (dt (.sl 5 (v_2.l.map encVal)))), (13, (di ((v_2.l.length : Nat) : Int))), (14, (di ((v_6 : Nat) : Int)))] [(13, (.var (qVal x_13))), (0, (.obj (tabP Tryd.prog))), (1, (.obj (errP 1))), (2, (.obj (errP 2))), (3, (.var [(.ref 4 0)])), (4, (.var [(.dat (.con .nilFunc)), (.fn 39 []), (.fn 41 []), (.fn 43 [.inl 3]), (.fn 44 [.inl 3])])), (16, (.row 5 1 (l_7.map elB)))]) _ (by kernel_rfl) (z1 (zc e14 (z6 zt))) ?_
  rcases Bool.eq_false_or_eq_true (x_13.k == 0) with b17 | b17
  replace h := ite_t b17 h
  refine T_drawTL 9 (hl 5 [(4, (zd (I 0)))]) (mk 32 [(0, (ow 16)), (2, (rf 3 0)), (7, (rf 13 0)), (12, (dt (.sl 5 (v_2.l.map encVal)))), (13, (di ((v_2.l.length : Nat) : Int))), (14, (di ((v_6 : Nat) : Int))), (18, (rf 4 0)), (19, (rf 13 0)), (20, (di x_13.k)), (21, (rf 4 0)), (22, (rf 4 0)), (23, (rf 4 0)), (24, (dt (.con .nilFunc))), (25, (ow 16)), (26, (.agg (qVal x_13)))] [(13, (.var (qVal x_13))), (0, (.obj (tabP Tryd.prog))), (1, (.obj (errP 1))), (2, (.obj (errP 2))), (3, (.var [(.ref 4 0)])), (4, (.var [(.dat (.con .nilFunc)), (.fn 39 []), (.fn 41 []), (.fn 43 [.inl 3]), (.fn 44 [.inl 3])])), (16, (.row 5 1 (l_7.map elB)))]) _ (by kernel_rfl) (by kernel_rfl) (by kernel_rfl) (z8 (z1 (zc (eq_of_beq b17) (z8 zt)))) ?_
  exact absurd (ck_inv (p := False) h).1 id
  replace h := ite_f b17 h
  rcases Bool.eq_false_or_eq_true (x_13.k == 1) with b18 | b18
  replace h := ite_t b18 h
  refine T_drawTL 9 (hl 5 [(4, (zd (I 1)))]) (mk 32 [(0, (ow 16)), (2, (rf 3 0)), (7, (rf 13 0)), (12, (dt (.sl 5 (v_2.l.map encVal)))), (13, (di ((v_2.l.length : Nat) : Int))), (14, (di ((v_6 : Nat) : Int))), (18, (rf 4 0)), (19, (rf 13 0)), (20, (di x_13.k)), (21, (rf 4 0)), (22, (rf 4 1)), (23, (rf 4 1)), (24, (.one (.fn 39 []))), (25, (ow 16)), (26, (.agg (qVal x_13)))] [(13, (.var (qVal x_13))), (0, (.obj (tabP Tryd.prog))), (1, (.obj (errP 1))), (2, (.obj (errP 2))), (3, (.var [(.ref 4 0)])), (4, (.var [(.dat (.con .nilFunc)), (.fn 39 []), (.fn 41 []), (.fn 43 [.inl 3]), (.fn 44 [.inl 3])])), (16, (.row 5 1 (l_7.map elB)))]) _ (by kernel_rfl) (by kernel_rfl) (by kernel_rfl) (z8 (z1 (zc (eq_of_beq b18) (z8 zt)))) ?_
  obtain ⟨y20, e21, hk22, hz23⟩ := bdP_inv h
  refine TL_ct 39 [0, 1, 2, 16] 100006 _ _ [] (g_codec_newWriter_1_ret e21) rfl rfl (by kernel_rfl) (by kernel_rfl) (by kernel_rfl) (by kernel_rfl) (fun l bx' hR => ?_) (fun d bx' hR => ?_)
  obtain ⟨r_19, rfl, rfl, rfl⟩ := CoR_ret hR
  replace h := hk22 _ rfl
  refine TL_turn [] [2, 12, 13, 14, 27] [13] (mk 32 [(2, (rf 3 0)), (12, (dt (.sl 5 (v_2.l.map encVal)))), (13, (di ((v_2.l.length : Nat) : Int))), (14, (di ((v_6 : Nat) : Int))), (27, (ow 100006))] [(3, (.var [(.ref 4 0)])), (4, (.var [(.dat (.con .nilFunc)), (.fn 39 []), (.fn 41 []), (.fn 43 [.inl 3]), (.fn 44 [.inl 3])])), (0, (.obj (tabP Tryd.prog))), (1, (.obj (errP 1))), (2, (.obj (errP 2))), (100006, (.row 5 1 (r_19.map elB)))]) (by kernel_rfl) ?_
  refine TL_part 1 [] (mk 32 [(0, (ow 100006)), (2, (rf 3 0)), (12, (dt (.sl 5 (v_2.l.map encVal)))), (13, (di ((v_2.l.length : Nat) : Int))), (14, (di ((v_6 : Nat) : Int))), (27, (ow 100006))] [(3, (.var [(.ref 4 0)])), (4, (.var [(.dat (.con .nilFunc)), (.fn 39 []), (.fn 41 []), (.fn 43 [.inl 3]), (.fn 44 [.inl 3])])), (0, (.obj (tabP Tryd.prog))), (1, (.obj (errP 1))), (2, (.obj (errP 2))), (100006, (.row 5 1 (r_19.map elB)))]) _ (by kernel_rfl) (z2 zt) rfl ?_
  refine TL_nilQ ?_
  exact Exists.intro r_19 (And.intro h (arr [] [0, 2, 12, 13, 14] [] [0, 1, 2, 3, 4, 100006] (by kernel_rfl)))
  obtain ⟨rfl, rfl, hlk⟩ := CoR_pan hR
  replace h := hz23 rfl
  replace h := up_inv h hy1
  obtain rfl := some_inv h
  exact (show _ ∧ _ from ⟨rfl, ⟨_, rfl, lk3 ((after_lk (by kernel_rfl) rfl).trans (by rw [hlk 0 (by decide)]; kernel_rfl)) ((after_lk (by kernel_rfl) rfl).trans (by rw [hlk 1 (by decide)]; kernel_rfl)) ((after_lk (by kernel_rfl) rfl).trans (by rw [hlk 2 (by decide)]; kernel_rfl))⟩⟩)
  replace h := ite_f b18 h
  rcases Bool.eq_false_or_eq_true (x_13.k == 2) with b24 | b24
  replace h := ite_t b24 h
  refine T_drawTL 9 (hl 5 [(4, (zd (I 2)))]) (mk 32 [(0, (ow 16)), (2, (rf 3 0)), (7, (rf 13 0)), (12, (dt (.sl 5 (v_2.l.map encVal)))), (13, (di ((v_2.l.length : Nat) : Int))), (14, (di ((v_6 : Nat) : Int))), (18, (rf 4 0)), (19, (rf 13 0)), (20, (di x_13.k)), (21, (rf 4 0)), (22, (rf 4 2)), (23, (rf 4 2)), (24, (.one (.fn 41 []))), (25, (ow 16)), (26, (.agg (qVal x_13)))] [(13, (.var (qVal x_13))), (0, (.obj (tabP Tryd.prog))), (1, (.obj (errP 1))), (2, (.obj (errP 2))), (3, (.var [(.ref 4 0)])), (4, (.var [(.dat (.con .nilFunc)), (.fn 39 []), (.fn 41 []), (.fn 43 [.inl 3]), (.fn 44 [.inl 3])])), (16, (.row 5 1 (l_7.map elB)))]) _ (by kernel_rfl) (by kernel_rfl) (by kernel_rfl) (z8 (z1 (zc (eq_of_beq b24) (z8 zt)))) ?_
  obtain ⟨y26, e27, hk28, hz29⟩ := bdP_inv h
  refine TL_ct 41 [0, 1, 2, 16] 100006 _ _ [] (g_codec_newWriter_2_ret e27) rfl rfl (by kernel_rfl) (by kernel_rfl) (by kernel_rfl) (by kernel_rfl) (fun l bx' hR => ?_) (fun d bx' hR => ?_)
  obtain ⟨r_25, rfl, rfl, rfl⟩ := CoR_ret hR
  replace h := hk28 _ rfl
  refine TL_turn [] [2, 12, 13, 14, 27] [13] (mk 32 [(2, (rf 3 0)), (12, (dt (.sl 5 (v_2.l.map encVal)))), (13, (di ((v_2.l.length : Nat) : Int))), (14, (di ((v_6 : Nat) : Int))), (27, (ow 100006))] [(3, (.var [(.ref 4 0)])), (4, (.var [(.dat (.con .nilFunc)), (.fn 39 []), (.fn 41 []), (.fn 43 [.inl 3]), (.fn 44 [.inl 3])])), (0, (.obj (tabP Tryd.prog))), (1, (.obj (errP 1))), (2, (.obj (errP 2))), (100006, (.row 5 1 (r_25.map elB)))]) (by kernel_rfl) ?_
  refine TL_part 1 [] (mk 32 [(0, (ow 100006)), (2, (rf 3 0)), (12, (dt (.sl 5 (v_2.l.map encVal)))), (13, (di ((v_2.l.length : Nat) : Int))), (14, (di ((v_6 : Nat) : Int))), (27, (ow 100006))] [(3, (.var [(.ref 4 0)])), (4, (.var [(.dat (.con .nilFunc)), (.fn 39 []), (.fn 41 []), (.fn 43 [.inl 3]), (.fn 44 [.inl 3])])), (0, (.obj (tabP Tryd.prog))), (1, (.obj (errP 1))), (2, (.obj (errP 2))), (100006, (.row 5 1 (r_25.map elB)))]) _ (by kernel_rfl) (z2 zt) rfl ?_
  refine TL_nilQ ?_
  exact Exists.intro r_25 (And.intro h (arr [] [0, 2, 12, 13, 14] [] [0, 1, 2, 3, 4, 100006] (by kernel_rfl)))
  obtain ⟨rfl, rfl, hlk⟩ := CoR_pan hR
  replace h := hz29 rfl
  replace h := up_inv h hy1
  obtain rfl := some_inv h
  exact (show _ ∧ _ from ⟨rfl, ⟨_, rfl, lk3 ((after_lk (by kernel_rfl) rfl).trans (by rw [hlk 0 (by decide)]; kernel_rfl)) ((after_lk (by kernel_rfl) rfl).trans (by rw [hlk 1 (by decide)]; kernel_rfl)) ((after_lk (by kernel_rfl) rfl).trans (by rw [hlk 2 (by decide)]; kernel_rfl))⟩⟩)
  replace h := ite_f b24 h
  rcases Bool.eq_false_or_eq_true (x_13.k == 3) with b30 | b30
  replace h := ite_t b30 h
  refine T_drawTL 9 (hl 5 [(4, (zd (I 3)))]) (mk 32 [(0, (ow 16)), (2, (rf 3 0)), (7, (rf 13 0)), (12, (dt (.sl 5 (v_2.l.map encVal)))), (13, (di ((v_2.l.length : Nat) : Int))), (14, (di ((v_6 : Nat) : Int))), (18, (rf 4 0)), (19, (rf 13 0)), (20, (di x_13.k)), (21, (rf 4 0)), (22, (rf 4 3)), (23, (rf 4 3)), (24, (.one (.fn 43 [.inl 3]))), (25, (ow 16)), (26, (.agg (qVal x_13)))] [(13, (.var (qVal x_13))), (0, (.obj (tabP Tryd.prog))), (1, (.obj (errP 1))), (2, (.obj (errP 2))), (3, (.var [(.ref 4 0)])), (4, (.var [(.dat (.con .nilFunc)), (.fn 39 []), (.fn 41 []), (.fn 43 [.inl 3]), (.fn 44 [.inl 3])])), (16, (.row 5 1 (l_7.map elB)))]) _ (by kernel_rfl) (by kernel_rfl) (by kernel_rfl) (z8 (z1 (zc (eq_of_beq b30) (z8 zt)))) ?_
  obtain ⟨y32, e33, hk34, hz35⟩ := bdP_inv h
  refine TL_ct 43 [0, 1, 2, 3, 4, 16] 100006 _ _ [.inl 3] (hrc43 e33) rfl rfl (by kernel_rfl) (by kernel_rfl) (by kernel_rfl) (by kernel_rfl) (fun l bx' hR => ?_) (fun d bx' hR => ?_)
  obtain ⟨r_31, rfl, rfl, rfl⟩ := CoR_ret hR
  replace h := hk34 _ rfl
  refine TL_turn [] [2, 12, 13, 14, 27] [13] (mk 32 [(2, (rf 3 0)), (12, (dt (.sl 5 (v_2.l.map encVal)))), (13, (di ((v_2.l.length : Nat) : Int))), (14, (di ((v_6 : Nat) : Int))), (27, (ow 100006))] [(0, (.obj (tabP Tryd.prog))), (1, (.obj (errP 1))), (2, (.obj (errP 2))), (3, (.var [(.ref 4 0)])), (4, (.var [(.dat (.con .nilFunc)), (.fn 39 []), (.fn 41 []), (.fn 43 [.inl 3]), (.fn 44 [.inl 3])])), (100006, (.row 5 1 (r_31.map elB)))]) (by kernel_rfl) ?_
  refine TL_part 1 [] (mk 32 [(0, (ow 100006)), (2, (rf 3 0)), (12, (dt (.sl 5 (v_2.l.map encVal)))), (13, (di ((v_2.l.length : Nat) : Int))), (14, (di ((v_6 : Nat) : Int))), (27, (ow 100006))] [(0, (.obj (tabP Tryd.prog))), (1, (.obj (errP 1))), (2, (.obj (errP 2))), (3, (.var [(.ref 4 0)])), (4, (.var [(.dat (.con .nilFunc)), (.fn 39 []), (.fn 41 []), (.fn 43 [.inl 3]), (.fn 44 [.inl 3])])), (100006, (.row 5 1 (r_31.map elB)))]) _ (by kernel_rfl) (z2 zt) rfl ?_
  refine TL_nilQ ?_
  exact Exists.intro r_31 (And.intro h (arr [] [0, 2, 12, 13, 14] [] [0, 1, 2, 3, 4, 100006] (by kernel_rfl)))
  obtain ⟨rfl, rfl, hlk⟩ := CoR_pan hR
  replace h := hz35 rfl
  replace h := up_inv h hy1
  obtain rfl := some_inv h
  exact (show _ ∧ _ from ⟨rfl, ⟨_, rfl, lk3 ((after_lk (by kernel_rfl) rfl).trans (by rw [hlk 0 (by decide)]; kernel_rfl)) ((after_lk (by kernel_rfl) rfl).trans (by rw [hlk 1 (by decide)]; kernel_rfl)) ((after_lk (by kernel_rfl) rfl).trans (by rw [hlk 2 (by decide)]; kernel_rfl))⟩⟩)
  replace h := ite_f b30 h
  obtain ⟨c36, h⟩ := ck_inv h
  refine T_drawTL 9 (hl 5 [(4, (zd (I 4)))]) (mk 32 [(0, (ow 16)), (2, (rf 3 0)), (7, (rf 13 0)), (12, (dt (.sl 5 (v_2.l.map encVal)))), (13, (di ((v_2.l.length : Nat) : Int))), (14, (di ((v_6 : Nat) : Int))), (18, (rf 4 0)), (19, (rf 13 0)), (20, (di x_13.k)), (21, (rf 4 0)), (22, (rf 4 4)), (23, (rf 4 4)), (24, (.one (.fn 44 [.inl 3]))), (25, (ow 16)), (26, (.agg (qVal x_13)))] [(13, (.var (qVal x_13))), (0, (.obj (tabP Tryd.prog))), (1, (.obj (errP 1))), (2, (.obj (errP 2))), (3, (.var [(.ref 4 0)])), (4, (.var [(.dat (.con .nilFunc)), (.fn 39 []), (.fn 41 []), (.fn 43 [.inl 3]), (.fn 44 [.inl 3])])), (16, (.row 5 1 (l_7.map elB)))]) _ (by kernel_rfl) (by kernel_rfl) (by kernel_rfl) (z8 (z1 (zc c36 (z8 zt)))) ?_
  obtain ⟨y38, e39, hk40, hz41⟩ := bdP_inv h
  refine TL_ct 44 [0, 1, 2, 3, 4, 16] 100006 _ _ [.inl 3] (hrc44 e39) rfl rfl (by kernel_rfl) (by kernel_rfl) (by kernel_rfl) (by kernel_rfl) (fun l bx' hR => ?_) (fun d bx' hR => ?_)
  obtain ⟨r_37, rfl, rfl, rfl⟩ := CoR_ret hR
  replace h := hk40 _ rfl
  refine TL_turn [] [2, 12, 13, 14, 27] [13] (mk 32 [(2, (rf 3 0)), (12, (dt (.sl 5 (v_2.l.map encVal)))), (13, (di ((v_2.l.length : Nat) : Int))), (14, (di ((v_6 : Nat) : Int))), (27, (ow 100006))] [(0, (.obj (tabP Tryd.prog))), (1, (.obj (errP 1))), (2, (.obj (errP 2))), (3, (.var [(.ref 4 0)])), (4, (.var [(.dat (.con .nilFunc)), (.fn 39 []), (.fn 41 []), (.fn 43 [.inl 3]), (.fn 44 [.inl 3])])), (100006, (.row 5 1 (r_37.map elB)))]) (by kernel_rfl) ?_
  refine TL_part 1 [] (mk 32 [(0, (ow 100006)), (2, (rf 3 0)), (12, (dt (.sl 5 (v_2.l.map encVal)))), (13, (di ((v_2.l.length : Nat) : Int))), (14, (di ((v_6 : Nat) : Int))), (27, (ow 100006))] [(0, (.obj (tabP Tryd.prog))), (1, (.obj (errP 1))), (2, (.obj (errP 2))), (3, (.var [(.ref 4 0)])), (4, (.var [(.dat (.con .nilFunc)), (.fn 39 []), (.fn 41 []), (.fn 43 [.inl 3]), (.fn 44 [.inl 3])])), (100006, (.row 5 1 (r_37.map elB)))]) _ (by kernel_rfl) (z2 zt) rfl ?_
  refine TL_nilQ ?_
  exact Exists.intro r_37 (And.intro h (arr [] [0, 2, 12, 13, 14] [] [0, 1, 2, 3, 4, 100006] (by kernel_rfl)))
  obtain ⟨rfl, rfl, hlk⟩ := CoR_pan hR
  replace h := hz41 rfl
  replace h := up_inv h hy1
  obtain rfl := some_inv h
  exact (show _ ∧ _ from ⟨rfl, ⟨_, rfl, lk3 ((after_lk (by kernel_rfl) rfl).trans (by rw [hlk 0 (by decide)]; kernel_rfl)) ((after_lk (by kernel_rfl) rfl).trans (by rw [hlk 1 (by decide)]; kernel_rfl)) ((after_lk (by kernel_rfl) rfl).trans (by rw [hlk 2 (by decide)]; kernel_rfl))⟩⟩)
  replace h := ite_f b10 h
  refine T_exit ?_
  replace h := up_inv h hy1
  exact Exists.intro l_7 (And.intro h (arr [] [0] [] [0, 1, 2, 3, 4, 16] (by kernel_rfl)))

end Go.Proofs.YtimalbkjflfdoaaDoor

/-
  Go functions as partial functions, printed by auto.py: what each returns when its partial function has a value. Conditions: those of each theorem.
-/
namespace Go.Proofs.YtimalbkjflfdoaaDoor
open Go.DL
set_option maxRecDepth 100000
set_option maxHeartbeats 4000000
set_option linter.unusedVariables false
set_option linter.unusedSimpArgs false
theorem g_codec_newWriter_4_s_ret {rc43 rc44 : (List UInt8) → (Val) → Option ((List UInt8) ⊕ Unit)} (hrc43 : ∀ {b_1 : List UInt8} {v_2 : Val} {r : (List UInt8) ⊕ Unit}, rc43 b_1 v_2 = some r → CT Tryd.prog 43 6 [(ow 5), (.agg (qVal v_2)), (rf 3 0)] [(0, (.obj (tabP Tryd.prog))), (1, (.obj (errP 1))), (2, (.obj (errP 2))), (3, (.var [(.ref 4 0)])), (4, (.var [(.dat (.con .nilFunc)), (.fn 39 []), (.fn 41 []), (.fn 43 [.inl 3]), (.fn 44 [.inl 3])])), (5, (.row 5 1 (b_1.map elB)))] (CoR 3 ghosts (fun x => ((ow 6), [(0, (.obj (tabP Tryd.prog))), (1, (.obj (errP 1))), (2, (.obj (errP 2))), (3, (.var [(.ref 4 0)])), (4, (.var [(.dat (.con .nilFunc)), (.fn 39 []), (.fn 41 []), (.fn 43 [.inl 3]), (.fn 44 [.inl 3])])), (6, (.row 5 1 (x.map elB)))])) (.iface 29 (.int .i64 20)) r)) (hrc44 : ∀ {b_1 : List UInt8} {v_2 : Val} {r : (List UInt8) ⊕ Unit}, rc44 b_1 v_2 = some r → CT Tryd.prog 44 6 [(ow 5), (.agg (qVal v_2)), (rf 3 0)] [(0, (.obj (tabP Tryd.prog))), (1, (.obj (errP 1))), (2, (.obj (errP 2))), (3, (.var [(.ref 4 0)])), (4, (.var [(.dat (.con .nilFunc)), (.fn 39 []), (.fn 41 []), (.fn 43 [.inl 3]), (.fn 44 [.inl 3])])), (5, (.row 5 1 (b_1.map elB)))] (CoR 3 ghosts (fun x => ((ow 6), [(0, (.obj (tabP Tryd.prog))), (1, (.obj (errP 1))), (2, (.obj (errP 2))), (3, (.var [(.ref 4 0)])), (4, (.var [(.dat (.con .nilFunc)), (.fn 39 []), (.fn 41 []), (.fn 43 [.inl 3]), (.fn 44 [.inl 3])])), (6, (.row 5 1 (x.map elB)))])) (.iface 29 (.int .i64 20)) r)) {b_1 : List UInt8} {v_2 : Val} {r : (List UInt8) ⊕ Unit} (h : g_codec_newWriter_4_s rc43 rc44 b_1 v_2 = some r) : CT Tryd.prog 44 6 [(ow 5), (.agg (qVal v_2)), (rf 3 0)] [(0, (.obj (tabP Tryd.prog))), (1, (.obj (errP 1))), (2, (.obj (errP 2))), (3, (.var [(.ref 4 0)])), (4, (.var [(.dat (.con .nilFunc)), (.fn 39 []), (.fn 41 []), (.fn 43 [.inl 3]), (.fn 44 [.inl 3])])), (5, (.row 5 1 (b_1.map elB)))] (CoR 3 ghosts (fun x => ((ow 6), [(0, (.obj (tabP Tryd.prog))), (1, (.obj (errP 1))), (2, (.obj (errP 2))), (3, (.var [(.ref 4 0)])), (4, (.var [(.dat (.con .nilFunc)), (.fn 39 []), (.fn 41 []), (.fn 43 [.inl 3]), (.fn 44 [.inl 3])])), (6, (.row 5 1 (x.map elB)))])) (.iface 29 (.int .i64 20)) r) := by
  refine CT.of_T Tryd.func44 (by kernel_rfl) rfl ?_
  refine T_turn [] [0, 1, 2] [] (mk 39 [(0, (ow 5)), (1, (.agg (qVal v_2))), (2, (rf 3 0))] [(0, (.obj (tabP Tryd.prog))), (1, (.obj (errP 1))), (2, (.obj (errP 2))), (3, (.var [(.ref 4 0)])), (4, (.var [(.dat (.con .nilFunc)), (.fn 39 []), (.fn 41 []), (.fn 43 [.inl 3]), (.fn 44 [.inl 3])])), (5, (.row 5 1 (b_1.map elB)))]) (by kernel_rfl) ?_
  refine T_reg [] [0, 2, 4] [] (mk 39 [(0, (ow 5)), (2, (rf 3 0)), (4, (rf 10 0))] [(10, (.var (qVal v_2))), (0, (.obj (tabP Tryd.prog))), (1, (.obj (errP 1))), (2, (.obj (errP 2))), (3, (.var [(.ref 4 0)])), (4, (.var [(.dat (.con .nilFunc)), (.fn 39 []), (.fn 41 []), (.fn 43 [.inl 3]), (.fn 44 [.inl 3])])), (5, (.row 5 1 (b_1.map elB)))]) _ (by kernel_rfl) (z4 zt) ?_
  obtain ⟨c3, h⟩ := ck_inv h
  refine T_reg [zn, zn, (zd (.sl 1 ((b_1 ++ ([100] : List UInt8)).map elB)))] [0, 2, 4] [15] (mk 39 [(0, (ow 16)), (2, (rf 3 0)), (4, (rf 10 0))] [(16, (.row 5 1 ((b_1 ++ ([100] : List UInt8)).map elB))), (10, (.var (qVal v_2))), (0, (.obj (tabP Tryd.prog))), (1, (.obj (errP 1))), (2, (.obj (errP 2))), (3, (.var [(.ref 4 0)])), (4, (.var [(.dat (.con .nilFunc)), (.fn 39 []), (.fn 41 []), (.fn 43 [.inl 3]), (.fn 44 [.inl 3])]))]) _ (by kernel_rfl) (z3 (zc (show dfill (fun i => some (i * 1, 1)) (List.replicate (1 * 1) .junk) [(0, [(.dat (.int .u8 100))])] = some ((flat (([100] : List UInt8).map elB)).map .dat) from rfl) (z1 (zc (app_s elB elB_one b_1 ([100] : List UInt8) c3) (z2 zt))))) ?_
  refine T_seqJ (α := List UInt8) (fun (l_4 : List UInt8) => (mk 39 [(0, (ow 16))] [(0, (.obj (tabP Tryd.prog))), (1, (.obj (errP 1))), (2, (.obj (errP 2))), (3, (.var [(.ref 4 0)])), (4, (.var [(.dat (.con .nilFunc)), (.fn 39 []), (.fn 41 []), (.fn 43 [.inl 3]), (.fn 44 [.inl 3])])), (16, (.row 5 1 (l_4.map elB)))])) (fun (l_4 : List UInt8) => g_codec_newWriter_4_s_j1 l_4 = some r) (fun l_4 h => ?_) ?_
  obtain ⟨c5, h⟩ := ck_inv h
  refine T_reg [zn, zn, (zd (.sl 1 ((l_4 ++ ([101] : List UInt8)).map elB)))] [5] [43] (mk 39 [(5, (ow 44))] [(44, (.row 5 1 ((l_4 ++ ([101] : List UInt8)).map elB))), (0, (.obj (tabP Tryd.prog))), (1, (.obj (errP 1))), (2, (.obj (errP 2))), (3, (.var [(.ref 4 0)])), (4, (.var [(.dat (.con .nilFunc)), (.fn 39 []), (.fn 41 []), (.fn 43 [.inl 3]), (.fn 44 [.inl 3])]))]) _ (by kernel_rfl) (z3 (zc (show dfill (fun i => some (i * 1, 1)) (List.replicate (1 * 1) .junk) [(0, [(.dat (.int .u8 101))])] = some ((flat (([101] : List UInt8).map elB)).map .dat) from rfl) (z1 (zc (app_s elB elB_one l_4 ([101] : List UInt8) c5) (z2 zt))))) ?_
  refine T_arr [.ren 44 6] [5] [44] [0, 1, 2, 3, 4, 6] (mk 39 [(5, (ow 6))] [(0, (.obj (tabP Tryd.prog))), (1, (.obj (errP 1))), (2, (.obj (errP 2))), (3, (.var [(.ref 4 0)])), (4, (.var [(.dat (.con .nilFunc)), (.fn 39 []), (.fn 41 []), (.fn 43 [.inl 3]), (.fn 44 [.inl 3])])), (6, (.row 5 1 ((l_4 ++ ([101] : List UInt8)).map elB)))]) (by kernel_rfl) ?_
  refine T_ret ?_
  obtain rfl := some_inv h
  exact ⟨[(ow 6)], by kernel_rfl, rfl⟩
  refine T_reg [zn, zn, (zd (I ((v_2.l.length : Nat) : Int)))] [0, 2, 4, 12, 13, 14] [] (mk 39 [(0, (ow 16)), (2, (rf 3 0)), (4, (rf 10 0)), (12, (dt (.sl 5 (v_2.l.map encVal)))), (13, (di ((v_2.l.length : Nat) : Int))), (14, (di 0))] [(16, (.row 5 1 ((b_1 ++ ([100] : List UInt8)).map elB))), (10, (.var (qVal v_2))), (0, (.obj (tabP Tryd.prog))), (1, (.obj (errP 1))), (2, (.obj (errP 2))), (3, (.var [(.ref 4 0)])), (4, (.var [(.dat (.con .nilFunc)), (.fn 39 []), (.fn 41 []), (.fn 43 [.inl 3]), (.fn 44 [.inl 3])]))]) _ (by kernel_rfl) (z5 (zc (len_s encVal v_2.l) (z2 zt))) ?_
  refine T_block ?_
  refine T_arr [] [0, 2, 4, 12, 13, 14] [] [0, 1, 2, 3, 4, 10, 16] _ (by kernel_rfl) (T_loopO (σ := Nat × (List UInt8)) (fun ((v_6, l_7) : Nat × (List UInt8)) => (mk 39 [(0, (ow 16)), (2, (rf 3 0)), (4, (rf 10 0)), (12, (dt (.sl 5 (v_2.l.map encVal)))), (13, (di ((v_2.l.length : Nat) : Int))), (14, (di ((v_6 : Nat) : Int)))] [(0, (.obj (tabP Tryd.prog))), (1, (.obj (errP 1))), (2, (.obj (errP 2))), (3, (.var [(.ref 4 0)])), (4, (.var [(.dat (.con .nilFunc)), (.fn 39 []), (.fn 41 []), (.fn 43 [.inl 3]), (.fn 44 [.inl 3])])), (10, (.var (qVal v_2))), (16, (.row 5 1 (l_7.map elB)))])) (g_codec_newWriter_4_s_l2 v_2 rc43 rc44) (0, (b_1 ++ ([100] : List UInt8))) h (fun v y1 hy1 h => ?_))
  obtain ⟨v_6, l_7⟩ := v
  refine T_reg [] [0, 2, 4, 12, 13, 14, 15] [] (mk 39 [(0, (ow 16)), (2, (rf 3 0)), (4, (rf 10 0)), (12, (dt (.sl 5 (v_2.l.map encVal)))), (13, (di ((v_2.l.length : Nat) : Int))), (14, (di ((v_6 : Nat) : Int))), (15, (db (decide (((v_6 : Nat) : Int) < ((v_2.l.length : Nat) : Int)))))] [(0, (.obj (tabP Tryd.prog))), (1, (.obj (errP 1))), (2, (.obj (errP 2))), (3, (.var [(.ref 4 0)])), (4, (.var [(.dat (.con .nilFunc)), (.fn 39 []), (.fn 41 []), (.fn 43 [.inl 3]), (.fn 44 [.inl 3])])), (10, (.var (qVal v_2))), (16, (.row 5 1 (l_7.map elB)))]) _ (by kernel_rfl) (z2 zt) ?_
  refine T_seq ?_
  refine T_cond (decide (((v_6 : Nat) : Int) < ((v_2.l.length : Nat) : Int))) (by kernel_rfl) (fun b10 => ?_) (fun b10 => ?_)
  replace h := ite_t b10 h
  refine T_skip ?_
  refine T_seqJ (α := List UInt8) (fun (l_11 : List UInt8) => (mk 39 [(0, (ow 100007)), (2, (rf 3 0)), (4, (rf 10 0)), (12, (dt (.sl 5 (v_2.l.map encVal)))), (13, (di ((v_2.l.length : Nat) : Int))), (14, (di ((v_6 : Nat) : Int)))] [(0, (.obj (tabP Tryd.prog))), (1, (.obj (errP 1))), (2, (.obj (errP 2))), (3, (.var [(.ref 4 0)])), (4, (.var [(.dat (.con .nilFunc)), (.fn 39 []), (.fn 41 []), (.fn 43 [.inl 3]), (.fn 44 [.inl 3])])), (10, (.var (qVal v_2))), (100007, (.row 5 1 (l_11.map elB)))])) (fun (l_11 : List UInt8) => g_codec_newWriter_4_s_j3 v_6 v_2 l_11 = some y1) (fun l_11 h => ?_) ?_
  obtain ⟨c12, h⟩ := ckI_inv h
  exact T_regJ [(zd (I ((v_6 + 1 : Nat) : Int)))] [.ren 100007 16] [0, 2, 4, 12, 13, 14] [] [0, 1, 2, 3, 4, 10, 16] _ _ (by kernel_rfl) (z1 (zc c12 (z2 zt))) (fun s hs => Exists.intro (v_6 + 1, l_11) (And.intro h hs))
  refine T_block ?_
  obtain ⟨x_13, e14, e15, e16, h⟩ := gn_invE encVal ndcVal encVal_nd h
  refine T_reg [zn, (zd (ndcVal x_13))] [0, 2, 4, 6, 7, 12, 13, 14] [] (mk 39 [(0, (ow 16)), (2, (rf 3 0)), (4, (rf 10 0)), (6, (di ((v_6 : Nat) : Int))), (7, (rf 13 0)), (12, (dt (.sl 5 (v_2.l.map encVal)))), (13, (di ((v_2.l.length : Nat) : Int))), (14, (di ((v_6 : Nat) : Int)))] [(13, (.var (qVal x_13))), (0, (.obj (tabP Tryd.prog))), (1, (.obj (errP 1))), (2, (.obj (errP 2))), (3, (.var [(.ref 4 0)])), (4, (.var [(.dat (.con .nilFunc)), (.fn 39 []), (.fn 41 []), (.fn 43 [.inl 3]), (.fn 44 [.inl 3])])), (10, (.var (qVal v_2))), (16, (.row 5 1 (l_7.map elB)))]) _ (by kernel_rfl) (z3 (zc e14 (z8 zt))) ?_
  refine T_arr [] [0, 2, 4, 6, 7, 12, 13, 14] [] [0, 1, 2, 3, 4, 10, 13, 16] (mk 39 [(0, (ow 16)), (2, (rf 3 0)), (4, (rf 10 0)), (6, (di ((v_6 : Nat) : Int))), (7, (rf 13 0)), (12, (dt (.sl 5 (v_2.l.map encVal)))), (13, (di ((v_2.l.length : Nat) : Int))), (14, (di ((v_6 : Nat) : Int)))] [(0, (.obj (tabP Tryd.prog))), (1, (.obj (errP 1))), (2, (.obj (errP 2))), (3, (.var [(.ref 4 0)])), (4, (.var [(.dat (.con .nilFunc)), (.fn 39 []), (.fn 41 []), (.fn 43 [.inl 3]), (.fn 44 [.inl 3])])), (10, (.var (qVal v_2))), (13, (.var (qVal x_13))), (16, (.row 5 1 (l_7.map elB)))]) (by kernel_rfl) ?_
  rcases Bool.eq_false_or_eq_true (x_13.k == 0) with b17 | b17
  replace h := ite_t b17 h
  obtain ⟨x_18, e19, e20, e21, h⟩ := gn_inv elStr h
  obtain ⟨y23, e24, hk25, hz26⟩ := bdP_inv h
  rcases y23 with r_22 | u
  replace h := hk25 _ rfl
  exact absurd (ck_inv (p := False) h).1 id
  replace h := hz26 rfl
  replace h := up_inv h hy1
  obtain rfl := some_inv h
  refine T_stC [{}, {}, {}, {}, { h := zd (I 0) }, {}, {}, {}, {}, {}, {}, { h := zd (.str x_18) }, {}, {}, {}, {}, {}] _ [(0, 19, (rf 4 0)), (1, 20, (rf 13 0)), (2, 21, (di x_13.k)), (3, 22, (rf 4 0)), (4, 23, (rf 4 0)), (5, 24, (rf 4 0)), (6, 25, (dt (.con .nilFunc))), (7, 26, (ow 16)), (8, 27, (rf 10 4)), (9, 28, (dt (.sl 1 (v_2.ks.map elStr)))), (10, 29, (di ((v_6 : Nat) : Int))), (11, 30, (dt (.ptr [(.str x_18)]))), (12, 31, (dt (.str x_18))), (14, 33, (.agg (qVal x_13)))] [] [0, 1, 2, 3, 4, 10, 13, 16] 17 [0, 0, 2, 1, 15, 31, 63, 0, 0, 256, 0, 1792, 3840, 8064, 0, 32767, 65535] 106496 [0] [13] (some 13) (by kernel_rfl) (by decide) (by kernel_rfl) (by kernel_rfl) (by kernel_rfl) (by kernel_rfl) (by kernel_rfl) (by kernel_rfl) (by kernel_rfl) (zs zt (zs zt (zs zt (zs zt (zs (eq_of_beq b17) (zs zt (zs zt (zs zt (zs zt (zs zt (zs zt (zs e19 (zs zt (zs zt (zs zt (zs zt (zs zt zS))))))))))))))))) ?_ (fun h => absurd h (by decide))
  intro c hc; simp only [List.mem_cons, List.not_mem_nil, or_false] at hc; rcases hc with rfl
  refine ⟨_, rfl, callP (hand := [0, 1, 2, 16]) (nb := 100006) [] (g_codec_text_ret e24) rfl rfl 13 _ _ _ (by kernel_rfl) (by kernel_rfl) (by kernel_rfl) (by kernel_rfl) (fun _ _ hlk => ?_)⟩
  exact (show _ ∧ _ from ⟨rfl, ⟨_, rfl, lk3 ((after_lk (by kernel_rfl) rfl).trans (by rw [hlk 0 (by decide)]; kernel_rfl)) ((after_lk (by kernel_rfl) rfl).trans (by rw [hlk 1 (by decide)]; kernel_rfl)) ((after_lk (by kernel_rfl) rfl).trans (by rw [hlk 2 (by decide)]; kernel_rfl))⟩⟩)
  replace h := ite_f b17 h
  rcases Bool.eq_false_or_eq_true (x_13.k == 1) with b27 | b27
  replace h := ite_t b27 h
  obtain ⟨x_28, e29, e30, e31, h⟩ := gn_inv elStr h
  obtain ⟨y33, e34, hk35, hz36⟩ := bdP_inv h
  rcases y33 with r_32 | u
  replace h := hk35 _ rfl
  obtain ⟨y38, e39, hk40, hz41⟩ := bdP_inv h
  rcases y38 with r_37 | u
  replace h := hk40 _ rfl
  refine T_stC [{}, {}, {}, {}, { h := zd (I 1) }, {}, {}, {}, {}, {}, {}, { h := zd (.str x_28) }, {}, {}, {}, {}, {}] _ [(0, 19, (rf 4 0)), (1, 20, (rf 13 0)), (2, 21, (di x_13.k)), (3, 22, (rf 4 0)), (4, 23, (rf 4 1)), (5, 24, (rf 4 1)), (6, 25, (.one (.fn 39 []))), (7, 26, (ow 16)), (8, 27, (rf 10 4)), (9, 28, (dt (.sl 1 (v_2.ks.map elStr)))), (10, 29, (di ((v_6 : Nat) : Int))), (11, 30, (dt (.ptr [(.str x_28)]))), (12, 31, (dt (.str x_28))), (13, 0, J), (13, 26, J), (13, 32, (ow 100006)), (14, 33, (.agg (qVal x_13))), (15, 32, J), (15, 34, (ow 100007)), (16, 0, (ow 100007))] [(13, 16, none), (13, 100006, some (.row 5 1 (r_32.map elB))), (15, 100006, none), (15, 100007, some (.row 5 1 (r_37.map elB)))] [0, 1, 2, 3, 4, 10, 13, 16, 100006, 100007] 17 [0, 0, 2, 1, 15, 31, 63, 0, 0, 256, 0, 1792, 3840, 8064, 0, 32767, 65535] 106496 [0, 8192, 40960, 106496] [13, 15] none (by kernel_rfl) (by decide) (by kernel_rfl) (by kernel_rfl) (by kernel_rfl) (by kernel_rfl) (by kernel_rfl) (by kernel_rfl) (by kernel_rfl) (zs zt (zs zt (zs zt (zs zt (zs (eq_of_beq b27) (zs zt (zs zt (zs zt (zs zt (zs zt (zs zt (zs e29 (zs zt (zs zt (zs zt (zs zt (zs (zc zt zt) zS))))))))))))))))) ?_ (fun _ => ?_)
  intro c hc; simp only [List.mem_cons, List.not_mem_nil, or_false] at hc; rcases hc with rfl | rfl
  exact ⟨_, rfl, callU (hand := [0, 1, 2, 16]) (nb := 100006) [] (g_codec_text_ret e34) [0, 1, 2, 3, 4, 10, 13, 16, 100006, 100007] (by decide) rfl rfl 13 _ _ _ (by kernel_rfl) (by kernel_rfl) (by kernel_rfl) (by kernel_rfl) (by kernel_rfl) (by kernel_rfl)⟩
  exact ⟨_, rfl, callU (hand := [0, 1, 2, 100006]) (nb := 100007) [] (g_codec_newWriter_1_ret e39) [0, 1, 2, 3, 4, 10, 13, 16, 100006, 100007] (by decide) rfl rfl 15 _ _ _ (by kernel_rfl) (by kernel_rfl) (by kernel_rfl) (by kernel_rfl) (by kernel_rfl) (by kernel_rfl)⟩
  exact Exists.intro r_37 (And.intro h (arr [] [0, 2, 4, 12, 13, 14] [13] [0, 1, 2, 3, 4, 10, 100007] (by kernel_rfl)))
  replace h := hz41 rfl
  replace h := up_inv h hy1
  obtain rfl := some_inv h
  refine T_stC [{}, {}, {}, {}, { h := zd (I 1) }, {}, {}, {}, {}, {}, {}, { h := zd (.str x_28) }, {}, {}, {}, {}, {}] _ [(0, 19, (rf 4 0)), (1, 20, (rf 13 0)), (2, 21, (di x_13.k)), (3, 22, (rf 4 0)), (4, 23, (rf 4 1)), (5, 24, (rf 4 1)), (6, 25, (.one (.fn 39 []))), (7, 26, (ow 16)), (8, 27, (rf 10 4)), (9, 28, (dt (.sl 1 (v_2.ks.map elStr)))), (10, 29, (di ((v_6 : Nat) : Int))), (11, 30, (dt (.ptr [(.str x_28)]))), (12, 31, (dt (.str x_28))), (13, 0, J), (13, 26, J), (13, 32, (ow 100006)), (14, 33, (.agg (qVal x_13)))] [(13, 16, none), (13, 100006, some (.row 5 1 (r_32.map elB)))] [0, 1, 2, 3, 4, 10, 13, 16, 100006] 17 [0, 0, 2, 1, 15, 31, 63, 0, 0, 256, 0, 1792, 3840, 8064, 0, 32767, 65535] 106496 [0, 8192] [13, 15] (some 15) (by kernel_rfl) (by decide) (by kernel_rfl) (by kernel_rfl) (by kernel_rfl) (by kernel_rfl) (by kernel_rfl) (by kernel_rfl) (by kernel_rfl) (zs zt (zs zt (zs zt (zs zt (zs (eq_of_beq b27) (zs zt (zs zt (zs zt (zs zt (zs zt (zs zt (zs e29 (zs zt (zs zt (zs zt (zs zt (zs zt zS))))))))))))))))) ?_ (fun h => absurd h (by decide))
  intro c hc; simp only [List.mem_cons, List.not_mem_nil, or_false] at hc; rcases hc with rfl | rfl
  exact ⟨_, rfl, callU (hand := [0, 1, 2, 16]) (nb := 100006) [] (g_codec_text_ret e34) [0, 1, 2, 3, 4, 10, 13, 16, 100006] (by decide) rfl rfl 13 _ _ _ (by kernel_rfl) (by kernel_rfl) (by kernel_rfl) (by kernel_rfl) (by kernel_rfl) (by kernel_rfl)⟩
  refine ⟨_, rfl, callP (hand := [0, 1, 2, 100006]) (nb := 100007) [] (g_codec_newWriter_1_ret e39) rfl rfl 15 _ _ _ (by kernel_rfl) (by kernel_rfl) (by kernel_rfl) (by kernel_rfl) (fun _ _ hlk => ?_)⟩
  exact (show _ ∧ _ from ⟨rfl, ⟨_, rfl, lk3 ((after_lk (by kernel_rfl) rfl).trans (by rw [hlk 0 (by decide)]; kernel_rfl)) ((after_lk (by kernel_rfl) rfl).trans (by rw [hlk 1 (by decide)]; kernel_rfl)) ((after_lk (by kernel_rfl) rfl).trans (by rw [hlk 2 (by decide)]; kernel_rfl))⟩⟩)
  replace h := hz36 rfl
  replace h := up_inv h hy1
  obtain rfl := some_inv h
  refine T_stC [{}, {}, {}, {}, { h := zd (I 1) }, {}, {}, {}, {}, {}, {}, { h := zd (.str x_28) }, {}, {}, {}, {}, {}] _ [(0, 19, (rf 4 0)), (1, 20, (rf 13 0)), (2, 21, (di x_13.k)), (3, 22, (rf 4 0)), (4, 23, (rf 4 1)), (5, 24, (rf 4 1)), (6, 25, (.one (.fn 39 []))), (7, 26, (ow 16)), (8, 27, (rf 10 4)), (9, 28, (dt (.sl 1 (v_2.ks.map elStr)))), (10, 29, (di ((v_6 : Nat) : Int))), (11, 30, (dt (.ptr [(.str x_28)]))), (12, 31, (dt (.str x_28))), (14, 33, (.agg (qVal x_13)))] [] [0, 1, 2, 3, 4, 10, 13, 16] 17 [0, 0, 2, 1, 15, 31, 63, 0, 0, 256, 0, 1792, 3840, 8064, 0, 32767, 65535] 106496 [0] [13] (some 13) (by kernel_rfl) (by decide) (by kernel_rfl) (by kernel_rfl) (by kernel_rfl) (by kernel_rfl) (by kernel_rfl) (by kernel_rfl) (by kernel_rfl) (zs zt (zs zt (zs zt (zs zt (zs (eq_of_beq b27) (zs zt (zs zt (zs zt (zs zt (zs zt (zs zt (zs e29 (zs zt (zs zt (zs zt (zs zt (zs zt zS))))))))))))))))) ?_ (fun h => absurd h (by decide))
  intro c hc; simp only [List.mem_cons, List.not_mem_nil, or_false] at hc; rcases hc with rfl
  refine ⟨_, rfl, callP (hand := [0, 1, 2, 16]) (nb := 100006) [] (g_codec_text_ret e34) rfl rfl 13 _ _ _ (by kernel_rfl) (by kernel_rfl) (by kernel_rfl) (by kernel_rfl) (fun _ _ hlk => ?_)⟩
  exact (show _ ∧ _ from ⟨rfl, ⟨_, rfl, lk3 ((after_lk (by kernel_rfl) rfl).trans (by rw [hlk 0 (by decide)]; kernel_rfl)) ((after_lk (by kernel_rfl) rfl).trans (by rw [hlk 1 (by decide)]; kernel_rfl)) ((after_lk (by kernel_rfl) rfl).trans (by rw [hlk 2 (by decide)]; kernel_rfl))⟩⟩)
  replace h := ite_f b27 h
  rcases Bool.eq_false_or_eq_true (x_13.k == 2) with b42 | b42
  replace h := ite_t b42 h
  obtain ⟨x_43, e44, e45, e46, h⟩ := gn_inv elStr h
  obtain ⟨y48, e49, hk50, hz51⟩ := bdP_inv h
  rcases y48 with r_47 | u
  replace h := hk50 _ rfl
  obtain ⟨y53, e54, hk55, hz56⟩ := bdP_inv h
  rcases y53 with r_52 | u
  replace h := hk55 _ rfl
  refine T_stC [{}, {}, {}, {}, { h := zd (I 2) }, {}, {}, {}, {}, {}, {}, { h := zd (.str x_43) }, {}, {}, {}, {}, {}] _ [(0, 19, (rf 4 0)), (1, 20, (rf 13 0)), (2, 21, (di x_13.k)), (3, 22, (rf 4 0)), (4, 23, (rf 4 2)), (5, 24, (rf 4 2)), (6, 25, (.one (.fn 41 []))), (7, 26, (ow 16)), (8, 27, (rf 10 4)), (9, 28, (dt (.sl 1 (v_2.ks.map elStr)))), (10, 29, (di ((v_6 : Nat) : Int))), (11, 30, (dt (.ptr [(.str x_43)]))), (12, 31, (dt (.str x_43))), (13, 0, J), (13, 26, J), (13, 32, (ow 100006)), (14, 33, (.agg (qVal x_13))), (15, 32, J), (15, 34, (ow 100007)), (16, 0, (ow 100007))] [(13, 16, none), (13, 100006, some (.row 5 1 (r_47.map elB))), (15, 100006, none), (15, 100007, some (.row 5 1 (r_52.map elB)))] [0, 1, 2, 3, 4, 10, 13, 16, 100006, 100007] 17 [0, 0, 2, 1, 15, 31, 63, 0, 0, 256, 0, 1792, 3840, 8064, 0, 32767, 65535] 106496 [0, 8192, 40960, 106496] [13, 15] none (by kernel_rfl) (by decide) (by kernel_rfl) (by kernel_rfl) (by kernel_rfl) (by kernel_rfl) (by kernel_rfl) (by kernel_rfl) (by kernel_rfl) (zs zt (zs zt (zs zt (zs zt (zs (eq_of_beq b42) (zs zt (zs zt (zs zt (zs zt (zs zt (zs zt (zs e44 (zs zt (zs zt (zs zt (zs zt (zs (zc zt zt) zS))))))))))))))))) ?_ (fun _ => ?_)
  intro c hc; simp only [List.mem_cons, List.not_mem_nil, or_false] at hc; rcases hc with rfl | rfl
  exact ⟨_, rfl, callU (hand := [0, 1, 2, 16]) (nb := 100006) [] (g_codec_text_ret e49) [0, 1, 2, 3, 4, 10, 13, 16, 100006, 100007] (by decide) rfl rfl 13 _ _ _ (by kernel_rfl) (by kernel_rfl) (by kernel_rfl) (by kernel_rfl) (by kernel_rfl) (by kernel_rfl)⟩
  exact ⟨_, rfl, callU (hand := [0, 1, 2, 100006]) (nb := 100007) [] (g_codec_newWriter_2_ret e54) [0, 1, 2, 3, 4, 10, 13, 16, 100006, 100007] (by decide) rfl rfl 15 _ _ _ (by kernel_rfl) (by kernel_rfl) (by kernel_rfl) (by kernel_rfl) (by kernel_rfl) (by kernel_rfl)⟩
  exact Exists.intro r_52 (And.intro h (arr [] [0, 2, 4, 12, 13, 14] [13] [0, 1, 2, 3, 4, 10, 100007] (by kernel_rfl)))
  replace h := hz56 rfl
  replace h := up_inv h hy1
  obtain rfl := some_inv h
  refine T_stC [{}, {}, {}, {}, { h := zd (I 2) }, {}, {}, {}, {}, {}, {}, { h := zd (.str x_43) }, {}, {}, {}, {}, {}] _ [(0, 19, (rf 4 0)), (1, 20, (rf 13 0)), (2, 21, (di x_13.k)), (3, 22, (rf 4 0)), (4, 23, (rf 4 2)), (5, 24, (rf 4 2)), (6, 25, (.one (.fn 41 []))), (7, 26, (ow 16)), (8, 27, (rf 10 4)), (9, 28, (dt (.sl 1 (v_2.ks.map elStr)))), (10, 29, (di ((v_6 : Nat) : Int))), (11, 30, (dt (.ptr [(.str x_43)]))), (12, 31, (dt (.str x_43))), (13, 0, J), (13, 26, J), (13, 32, (ow 100006)), (14, 33, (.agg (qVal x_13)))] [(13, 16, none), (13, 100006, some (.row 5 1 (r_47.map elB)))] [0, 1, 2, 3, 4, 10, 13, 16, 100006] 17 [0, 0, 2, 1, 15, 31, 63, 0, 0, 256, 0, 1792, 3840, 8064, 0, 32767, 65535] 106496 [0, 8192] [13, 15] (some 15) (by kernel_rfl) (by decide) (by kernel_rfl) (by kernel_rfl) (by kernel_rfl) (by kernel_rfl) (by kernel_rfl) (by kernel_rfl) (by kernel_rfl) (zs zt (zs zt (zs zt (zs zt (zs (eq_of_beq b42) (zs zt (zs zt (zs zt (zs zt (zs zt (zs zt (zs e44 (zs zt (zs zt (zs zt (zs zt (zs zt zS))))))))))))))))) ?_ (fun h => absurd h (by decide))
  intro c hc; simp only [List.mem_cons, List.not_mem_nil, or_false] at hc; rcases hc with rfl | rfl
  exact ⟨_, rfl, callU (hand := [0, 1, 2, 16]) (nb := 100006) [] (g_codec_text_ret e49) [0, 1, 2, 3, 4, 10, 13, 16, 100006] (by decide) rfl rfl 13 _ _ _ (by kernel_rfl) (by kernel_rfl) (by kernel_rfl) (by kernel_rfl) (by kernel_rfl) (by kernel_rfl)⟩
  refine ⟨_, rfl, callP (hand := [0, 1, 2, 100006]) (nb := 100007) [] (g_codec_newWriter_2_ret e54) rfl rfl 15 _ _ _ (by kernel_rfl) (by kernel_rfl) (by kernel_rfl) (by kernel_rfl) (fun _ _ hlk => ?_)⟩
  exact (show _ ∧ _ from ⟨rfl, ⟨_, rfl, lk3 ((after_lk (by kernel_rfl) rfl).trans (by rw [hlk 0 (by decide)]; kernel_rfl)) ((after_lk (by kernel_rfl) rfl).trans (by rw [hlk 1 (by decide)]; kernel_rfl)) ((after_lk (by kernel_rfl) rfl).trans (by rw [hlk 2 (by decide)]; kernel_rfl))⟩⟩)
  replace h := hz51 rfl
  replace h := up_inv h hy1
  obtain rfl := some_inv h
  refine T_stC [{}, {}, {}, {}, { h := zd (I 2) }, {}, {}, {}, {}, {}, {}, { h := zd (.str x_43) }, {}, {}, {}, {}, {}] _ [(0, 19, (rf 4 0)), (1, 20, (rf 13 0)), (2, 21, (di x_13.k)), (3, 22, (rf 4 0)), (4, 23, (rf 4 2)), (5, 24, (rf 4 2)), (6, 25, (.one (.fn 41 []))), (7, 26, (ow 16)), (8, 27, (rf 10 4)), (9, 28, (dt (.sl 1 (v_2.ks.map elStr)))), (10, 29, (di ((v_6 : Nat) : Int))), (11, 30, (dt (.ptr [(.str x_43)]))), (12, 31, (dt (.str x_43))), (14, 33, (.agg (qVal x_13)))] [] [0, 1, 2, 3, 4, 10, 13, 16] 17 [0, 0, 2, 1, 15, 31, 63, 0, 0, 256, 0, 1792, 3840, 8064, 0, 32767, 65535] 106496 [0] [13] (some 13) (by kernel_rfl) (by decide) (by kernel_rfl) (by kernel_rfl) (by kernel_rfl) (by kernel_rfl) (by kernel_rfl) (by kernel_rfl) (by kernel_rfl) (zs zt (zs zt (zs zt (zs zt (zs (eq_of_beq b42) (zs zt (zs zt (zs zt (zs zt (zs zt (zs zt (zs e44 (zs zt (zs zt (zs zt (zs zt (zs zt zS))))))))))))))))) ?_ (fun h => absurd h (by decide))
  intro c hc; simp only [List.mem_cons, List.not_mem_nil, or_false] at hc; rcases hc with rfl
  refine ⟨_, rfl, callP (hand := [0, 1, 2, 16]) (nb := 100006) [] (g_codec_text_ret e49) rfl rfl 13 _ _ _ (by kernel_rfl) (by kernel_rfl) (by kernel_rfl) (by kernel_rfl) (fun _ _ hlk => ?_)⟩
  exact (show _ ∧ _ from ⟨rfl, ⟨_, rfl, lk3 ((after_lk (by kernel_rfl) rfl).trans (by rw [hlk 0 (by decide)]; kernel_rfl)) ((after_lk (by kernel_rfl) rfl).trans (by rw [hlk 1 (by decide)]; kernel_rfl)) ((after_lk (by kernel_rfl) rfl).trans (by rw [hlk 2 (by decide)]; kernel_rfl))⟩⟩)
  replace h := ite_f b42 h
  rcases Bool.eq_false_or_eq_true (x_13.k == 3) with b57 | b57
  replace h := ite_t b57 h
  obtain ⟨x_58, e59, e60, e61, h⟩ := gn_inv elStr h
  obtain ⟨y63, e64, hk65, hz66⟩ := bdP_inv h
  rcases y63 with r_62 | u
  replace h := hk65 _ rfl
  obtain ⟨y68, e69, hk70, hz71⟩ := bdP_inv h
  rcases y68 with r_67 | u
  replace h := hk70 _ rfl
  refine T_stC [{}, {}, {}, {}, { h := zd (I 3) }, {}, {}, {}, {}, {}, {}, { h := zd (.str x_58) }, {}, {}, {}, {}, {}] _ [(0, 19, (rf 4 0)), (1, 20, (rf 13 0)), (2, 21, (di x_13.k)), (3, 22, (rf 4 0)), (4, 23, (rf 4 3)), (5, 24, (rf 4 3)), (6, 25, (.one (.fn 43 [.inl 3]))), (7, 26, (ow 16)), (8, 27, (rf 10 4)), (9, 28, (dt (.sl 1 (v_2.ks.map elStr)))), (10, 29, (di ((v_6 : Nat) : Int))), (11, 30, (dt (.ptr [(.str x_58)]))), (12, 31, (dt (.str x_58))), (13, 0, J), (13, 26, J), (13, 32, (ow 100006)), (14, 33, (.agg (qVal x_13))), (15, 32, J), (15, 34, (ow 100007)), (16, 0, (ow 100007))] [(13, 16, none), (13, 100006, some (.row 5 1 (r_62.map elB))), (15, 100006, none), (15, 100007, some (.row 5 1 (r_67.map elB)))] [0, 1, 2, 3, 4, 10, 13, 16, 100006, 100007] 17 [0, 0, 2, 1, 15, 31, 63, 0, 0, 256, 0, 1792, 3840, 8064, 0, 32767, 65535] 106496 [0, 8192, 40960, 106496] [13, 15] none (by kernel_rfl) (by decide) (by kernel_rfl) (by kernel_rfl) (by kernel_rfl) (by kernel_rfl) (by kernel_rfl) (by kernel_rfl) (by kernel_rfl) (zs zt (zs zt (zs zt (zs zt (zs (eq_of_beq b57) (zs zt (zs zt (zs zt (zs zt (zs zt (zs zt (zs e59 (zs zt (zs zt (zs zt (zs zt (zs (zc zt zt) zS))))))))))))))))) ?_ (fun _ => ?_)
  intro c hc; simp only [List.mem_cons, List.not_mem_nil, or_false] at hc; rcases hc with rfl | rfl
  exact ⟨_, rfl, callU (hand := [0, 1, 2, 16]) (nb := 100006) [] (g_codec_text_ret e64) [0, 1, 2, 3, 4, 10, 13, 16, 100006, 100007] (by decide) rfl rfl 13 _ _ _ (by kernel_rfl) (by kernel_rfl) (by kernel_rfl) (by kernel_rfl) (by kernel_rfl) (by kernel_rfl)⟩
  exact ⟨_, rfl, callU (hand := [0, 1, 2, 3, 4, 100006]) (nb := 100007) [.inl 3] (hrc43 e69) [0, 1, 2, 3, 4, 10, 13, 16, 100006, 100007] (by decide) rfl rfl 15 _ _ _ (by kernel_rfl) (by kernel_rfl) (by kernel_rfl) (by kernel_rfl) (by kernel_rfl) (by kernel_rfl)⟩
  exact Exists.intro r_67 (And.intro h (arr [] [0, 2, 4, 12, 13, 14] [13] [0, 1, 2, 3, 4, 10, 100007] (by kernel_rfl)))
  replace h := hz71 rfl
  replace h := up_inv h hy1
  obtain rfl := some_inv h
  refine T_stC [{}, {}, {}, {}, { h := zd (I 3) }, {}, {}, {}, {}, {}, {}, { h := zd (.str x_58) }, {}, {}, {}, {}, {}] _ [(0, 19, (rf 4 0)), (1, 20, (rf 13 0)), (2, 21, (di x_13.k)), (3, 22, (rf 4 0)), (4, 23, (rf 4 3)), (5, 24, (rf 4 3)), (6, 25, (.one (.fn 43 [.inl 3]))), (7, 26, (ow 16)), (8, 27, (rf 10 4)), (9, 28, (dt (.sl 1 (v_2.ks.map elStr)))), (10, 29, (di ((v_6 : Nat) : Int))), (11, 30, (dt (.ptr [(.str x_58)]))), (12, 31, (dt (.str x_58))), (13, 0, J), (13, 26, J), (13, 32, (ow 100006)), (14, 33, (.agg (qVal x_13)))] [(13, 16, none), (13, 100006, some (.row 5 1 (r_62.map elB)))] [0, 1, 2, 3, 4, 10, 13, 16, 100006] 17 [0, 0, 2, 1, 15, 31, 63, 0, 0, 256, 0, 1792, 3840, 8064, 0, 32767, 65535] 106496 [0, 8192] [13, 15] (some 15) (by kernel_rfl) (by decide) (by kernel_rfl) (by kernel_rfl) (by kernel_rfl) (by kernel_rfl) (by kernel_rfl) (by kernel_rfl) (by kernel_rfl) (zs zt (zs zt (zs zt (zs zt (zs (eq_of_beq b57) (zs zt (zs zt (zs zt (zs zt (zs zt (zs zt (zs e59 (zs zt (zs zt (zs zt (zs zt (zs zt zS))))))))))))))))) ?_ (fun h => absurd h (by decide))
  intro c hc; simp only [List.mem_cons, List.not_mem_nil, or_false] at hc; rcases hc with rfl | rfl
  exact ⟨_, rfl, callU (hand := [0, 1, 2, 16]) (nb := 100006) [] (g_codec_text_ret e64) [0, 1, 2, 3, 4, 10, 13, 16, 100006] (by decide) rfl rfl 13 _ _ _ (by kernel_rfl) (by kernel_rfl) (by kernel_rfl) (by kernel_rfl) (by kernel_rfl) (by kernel_rfl)⟩
  refine ⟨_, rfl, callP (hand := [0, 1, 2, 3, 4, 100006]) (nb := 100007) [.inl 3] (hrc43 e69) rfl rfl 15 _ _ _ (by kernel_rfl) (by kernel_rfl) (by kernel_rfl) (by kernel_rfl) (fun _ _ hlk => ?_)⟩
  exact (show _ ∧ _ from ⟨rfl, ⟨_, rfl, lk3 ((after_lk (by kernel_rfl) rfl).trans (by rw [hlk 0 (by decide)]; kernel_rfl)) ((after_lk (by kernel_rfl) rfl).trans (by rw [hlk 1 (by decide)]; kernel_rfl)) ((after_lk (by kernel_rfl) rfl).trans (by rw [hlk 2 (by decide)]; kernel_rfl))⟩⟩)
  replace h := hz66 rfl
  replace h := up_inv h hy1
  obtain rfl := some_inv h
  refine T_stC [{}, {}, {}, {}, { h := zd (I 3) }, {}, {}, {}, {}, {}, {}, { h := zd (.str x_58) }, {}, {}, {}, {}, {}] _ [(0, 19, (rf 4 0)), (1, 20, (rf 13 0)), (2, 21, (di x_13.k)), (3, 22, (rf 4 0)), (4, 23, (rf 4 3)), (5, 24, (rf 4 3)), (6, 25, (.one (.fn 43 [.inl 3]))), (7, 26, (ow 16)), (8, 27, (rf 10 4)), (9, 28, (dt (.sl 1 (v_2.ks.map elStr)))), (10, 29, (di ((v_6 : Nat) : Int))), (11, 30, (dt (.ptr [(.str x_58)]))), (12, 31, (dt (.str x_58))), (14, 33, (.agg (qVal x_13)))] [] [0, 1, 2, 3, 4, 10, 13, 16] 17 [0, 0, 2, 1, 15, 31, 63, 0, 0, 256, 0, 1792, 3840, 8064, 0, 32767, 65535] 106496 [0] [13] (some 13) (by kernel_rfl) (by decide) (by kernel_rfl) (by kernel_rfl) (by kernel_rfl) (by kernel_rfl) (by kernel_rfl) (by kernel_rfl) (by kernel_rfl) (zs zt (zs zt (zs zt (zs zt (zs (eq_of_beq b57) (zs zt (zs zt (zs zt (zs zt (zs zt (zs zt (zs e59 (zs zt (zs zt (zs zt (zs zt (zs zt zS))))))))))))))))) ?_ (fun h => absurd h (by decide))
  intro c hc; simp only [List.mem_cons, List.not_mem_nil, or_false] at hc; rcases hc with rfl
  refine ⟨_, rfl, callP (hand := [0, 1, 2, 16]) (nb := 100006) [] (g_codec_text_ret e64) rfl rfl 13 _ _ _ (by kernel_rfl) (by kernel_rfl) (by kernel_rfl) (by kernel_rfl) (fun _ _ hlk => ?_)⟩
  exact (show _ ∧ _ from ⟨rfl, ⟨_, rfl, lk3 ((after_lk (by kernel_rfl) rfl).trans (by rw [hlk 0 (by decide)]; kernel_rfl)) ((after_lk (by kernel_rfl) rfl).trans (by rw [hlk 1 (by decide)]; kernel_rfl)) ((after_lk (by kernel_rfl) rfl).trans (by rw [hlk 2 (by decide)]; kernel_rfl))⟩⟩)
  replace h := ite_f b57 h
  obtain ⟨c72, h⟩ := ck_inv h
  obtain ⟨x_73, e74, e75, e76, h⟩ := gn_inv elStr h
  obtain ⟨y78, e79, hk80, hz81⟩ := bdP_inv h
  rcases y78 with r_77 | u
  replace h := hk80 _ rfl
  obtain ⟨y83, e84, hk85, hz86⟩ := bdP_inv h
  rcases y83 with r_82 | u
  replace h := hk85 _ rfl
  refine T_stC [{}, {}, {}, {}, { h := zd (I 4) }, {}, {}, {}, {}, {}, {}, { h := zd (.str x_73) }, {}, {}, {}, {}, {}] _ [(0, 19, (rf 4 0)), (1, 20, (rf 13 0)), (2, 21, (di x_13.k)), (3, 22, (rf 4 0)), (4, 23, (rf 4 4)), (5, 24, (rf 4 4)), (6, 25, (.one (.fn 44 [.inl 3]))), (7, 26, (ow 16)), (8, 27, (rf 10 4)), (9, 28, (dt (.sl 1 (v_2.ks.map elStr)))), (10, 29, (di ((v_6 : Nat) : Int))), (11, 30, (dt (.ptr [(.str x_73)]))), (12, 31, (dt (.str x_73))), (13, 0, J), (13, 26, J), (13, 32, (ow 100006)), (14, 33, (.agg (qVal x_13))), (15, 32, J), (15, 34, (ow 100007)), (16, 0, (ow 100007))] [(13, 16, none), (13, 100006, some (.row 5 1 (r_77.map elB))), (15, 100006, none), (15, 100007, some (.row 5 1 (r_82.map elB)))] [0, 1, 2, 3, 4, 10, 13, 16, 100006, 100007] 17 [0, 0, 2, 1, 15, 31, 63, 0, 0, 256, 0, 1792, 3840, 8064, 0, 32767, 65535] 106496 [0, 8192, 40960, 106496] [13, 15] none (by kernel_rfl) (by decide) (by kernel_rfl) (by kernel_rfl) (by kernel_rfl) (by kernel_rfl) (by kernel_rfl) (by kernel_rfl) (by kernel_rfl) (zs zt (zs zt (zs zt (zs zt (zs c72 (zs zt (zs zt (zs zt (zs zt (zs zt (zs zt (zs e74 (zs zt (zs zt (zs zt (zs zt (zs (zc zt zt) zS))))))))))))))))) ?_ (fun _ => ?_)
  intro c hc; simp only [List.mem_cons, List.not_mem_nil, or_false] at hc; rcases hc with rfl | rfl
  exact ⟨_, rfl, callU (hand := [0, 1, 2, 16]) (nb := 100006) [] (g_codec_text_ret e79) [0, 1, 2, 3, 4, 10, 13, 16, 100006, 100007] (by decide) rfl rfl 13 _ _ _ (by kernel_rfl) (by kernel_rfl) (by kernel_rfl) (by kernel_rfl) (by kernel_rfl) (by kernel_rfl)⟩
  exact ⟨_, rfl, callU (hand := [0, 1, 2, 3, 4, 100006]) (nb := 100007) [.inl 3] (hrc44 e84) [0, 1, 2, 3, 4, 10, 13, 16, 100006, 100007] (by decide) rfl rfl 15 _ _ _ (by kernel_rfl) (by kernel_rfl) (by kernel_rfl) (by kernel_rfl) (by kernel_rfl) (by kernel_rfl)⟩
  exact Exists.intro r_82 (And.intro h (arr [] [0, 2, 4, 12, 13, 14] [13] [0, 1, 2, 3, 4, 10, 100007] (by kernel_rfl)))
  replace h := hz86 rfl
  replace h := up_inv h hy1
  obtain rfl := some_inv h
  refine T_stC [{}, {}, {}, {}, { h := zd (I 4) }, {}, {}, {}, {}, {}, {}, { h := zd (.str x_73) }, {}, {}, {}, {}, {}] _ [(0, 19, (rf 4 0)), (1, 20, (rf 13 0)), (2, 21, (di x_13.k)), (3, 22, (rf 4 0)), (4, 23, (rf 4 4)), (5, 24, (rf 4 4)), (6, 25, (.one (.fn 44 [.inl 3]))), (7, 26, (ow 16)), (8, 27, (rf 10 4)), (9, 28, (dt (.sl 1 (v_2.ks.map elStr)))), (10, 29, (di ((v_6 : Nat) : Int))), (11, 30, (dt (.ptr [(.str x_73)]))), (12, 31, (dt (.str x_73))), (13, 0, J), (13, 26, J), (13, 32, (ow 100006)), (14, 33, (.agg (qVal x_13)))] [(13, 16, none), (13, 100006, some (.row 5 1 (r_77.map elB)))] [0, 1, 2, 3, 4, 10, 13, 16, 100006] 17 [0, 0, 2, 1, 15, 31, 63, 0, 0, 256, 0, 1792, 3840, 8064, 0, 32767, 65535] 106496 [0, 8192] [13, 15] (some 15) (by kernel_rfl) (by decide) (by kernel_rfl) (by kernel_rfl) (by kernel_rfl) (by kernel_rfl) (by kernel_rfl) (by kernel_rfl) (by kernel_rfl) (zs zt (zs zt (zs zt (zs zt (zs c72 (zs zt (zs zt (zs zt (zs zt (zs zt (zs zt (zs e74 (zs zt (zs zt (zs zt (zs zt (zs zt zS))))))))))))))))) ?_ (fun h => absurd h (by decide))
  intro c hc; simp only [List.mem_cons, List.not_mem_nil, or_false] at hc; rcases hc with rfl | rfl
  exact ⟨_, rfl, callU (hand := [0, 1, 2, 16]) (nb := 100006) [] (g_codec_text_ret e79) [0, 1, 2, 3, 4, 10, 13, 16, 100006] (by decide) rfl rfl 13 _ _ _ (by kernel_rfl) (by kernel_rfl) (by kernel_rfl) (by kernel_rfl) (by kernel_rfl) (by kernel_rfl)⟩
  refine ⟨_, rfl, callP (hand := [0, 1, 2, 3, 4, 100006]) (nb := 100007) [.inl 3] (hrc44 e84) rfl rfl 15 _ _ _ (by kernel_rfl) (by kernel_rfl) (by kernel_rfl) (by kernel_rfl) (fun _ _ hlk => ?_)⟩
  exact (show _ ∧ _ from ⟨rfl, ⟨_, rfl, lk3 ((after_lk (by kernel_rfl) rfl).trans (by rw [hlk 0 (by decide)]; kernel_rfl)) ((after_lk (by kernel_rfl) rfl).trans (by rw [hlk 1 (by decide)]; kernel_rfl)) ((after_lk (by kernel_rfl) rfl).trans (by rw [hlk 2 (by decide)]; kernel_rfl))⟩⟩)
  replace h := hz81 rfl
  replace h := up_inv h hy1
  obtain rfl := some_inv h
  refine T_stC [{}, {}, {}, {}, { h := zd (I 4) }, {}, {}, {}, {}, {}, {}, { h := zd (.str x_73) }, {}, {}, {}, {}, {}] _ [(0, 19, (rf 4 0)), (1, 20, (rf 13 0)), (2, 21, (di x_13.k)), (3, 22, (rf 4 0)), (4, 23, (rf 4 4)), (5, 24, (rf 4 4)), (6, 25, (.one (.fn 44 [.inl 3]))), (7, 26, (ow 16)), (8, 27, (rf 10 4)), (9, 28, (dt (.sl 1 (v_2.ks.map elStr)))), (10, 29, (di ((v_6 : Nat) : Int))), (11, 30, (dt (.ptr [(.str x_73)]))), (12, 31, (dt (.str x_73))), (14, 33, (.agg (qVal x_13)))] [] [0, 1, 2, 3, 4, 10, 13, 16] 17 [0, 0, 2, 1, 15, 31, 63, 0, 0, 256, 0, 1792, 3840, 8064, 0, 32767, 65535] 106496 [0] [13] (some 13) (by kernel_rfl) (by decide) (by kernel_rfl) (by kernel_rfl) (by kernel_rfl) (by kernel_rfl) (by kernel_rfl) (by kernel_rfl) (by kernel_rfl) (zs zt (zs zt (zs zt (zs zt (zs c72 (zs zt (zs zt (zs zt (zs zt (zs zt (zs zt (zs e74 (zs zt (zs zt (zs zt (zs zt (zs zt zS))))))))))))))))) ?_ (fun h => absurd h (by decide))
  intro c hc; simp only [List.mem_cons, List.not_mem_nil, or_false] at hc; rcases hc with rfl
  refine ⟨_, rfl, callP (hand := [0, 1, 2, 16]) (nb := 100006) [] (g_codec_text_ret e79) rfl rfl 13 _ _ _ (by kernel_rfl) (by kernel_rfl) (by kernel_rfl) (by kernel_rfl) (fun _ _ hlk => ?_)⟩
  exact (show _ ∧ _ from ⟨rfl, ⟨_, rfl, lk3 ((after_lk (by kernel_rfl) rfl).trans (by rw [hlk 0 (by decide)]; kernel_rfl)) ((after_lk (by kernel_rfl) rfl).trans (by rw [hlk 1 (by decide)]; kernel_rfl)) ((after_lk (by kernel_rfl) rfl).trans (by rw [hlk 2 (by decide)]; kernel_rfl))⟩⟩)
  replace h := ite_f b10 h
  refine T_exit ?_
  replace h := up_inv h hy1
  exact Exists.intro l_7 (And.intro h (arr [] [0] [10] [0, 1, 2, 3, 4, 16] (by kernel_rfl)))

end Go.Proofs.YtimalbkjflfdoaaDoor

/-
  Go functions as partial functions, printed by auto.py: what each returns when its partial function has a value. Conditions: those of each theorem.
-/
namespace Go.Proofs.YtimalbkjflfdoaaDoor
open Go.DL
set_option maxRecDepth 100000
set_option maxHeartbeats 4000000
set_option linter.unusedVariables false
set_option linter.unusedSimpArgs false
noncomputable def g_writer : Nat → ((List UInt8) → (Val) → Option ((List UInt8) ⊕ Unit)) × ((List UInt8) → (Val) → Option ((List UInt8) ⊕ Unit))
  | 0 => (fun _ _ => none, fun _ _ => none)
  | fu + 1 => (g_codec_newWriter_3_s (g_writer fu).1 (g_writer fu).2, g_codec_newWriter_4_s (g_writer fu).1 (g_writer fu).2)
theorem g_writer_ret : ∀ (fu : Nat), (∀ {b_1 : List UInt8} {v_2 : Val} {r : (List UInt8) ⊕ Unit}, (g_writer fu).1 b_1 v_2 = some r → CT Tryd.prog 43 6 [(ow 5), (.agg (qVal v_2)), (rf 3 0)] [(0, (.obj (tabP Tryd.prog))), (1, (.obj (errP 1))), (2, (.obj (errP 2))), (3, (.var [(.ref 4 0)])), (4, (.var [(.dat (.con .nilFunc)), (.fn 39 []), (.fn 41 []), (.fn 43 [.inl 3]), (.fn 44 [.inl 3])])), (5, (.row 5 1 (b_1.map elB)))] (CoR 3 ghosts (fun x => ((ow 6), [(0, (.obj (tabP Tryd.prog))), (1, (.obj (errP 1))), (2, (.obj (errP 2))), (3, (.var [(.ref 4 0)])), (4, (.var [(.dat (.con .nilFunc)), (.fn 39 []), (.fn 41 []), (.fn 43 [.inl 3]), (.fn 44 [.inl 3])])), (6, (.row 5 1 (x.map elB)))])) (.iface 29 (.int .i64 20)) r)) ∧ (∀ {b_1 : List UInt8} {v_2 : Val} {r : (List UInt8) ⊕ Unit}, (g_writer fu).2 b_1 v_2 = some r → CT Tryd.prog 44 6 [(ow 5), (.agg (qVal v_2)), (rf 3 0)] [(0, (.obj (tabP Tryd.prog))), (1, (.obj (errP 1))), (2, (.obj (errP 2))), (3, (.var [(.ref 4 0)])), (4, (.var [(.dat (.con .nilFunc)), (.fn 39 []), (.fn 41 []), (.fn 43 [.inl 3]), (.fn 44 [.inl 3])])), (5, (.row 5 1 (b_1.map elB)))] (CoR 3 ghosts (fun x => ((ow 6), [(0, (.obj (tabP Tryd.prog))), (1, (.obj (errP 1))), (2, (.obj (errP 2))), (3, (.var [(.ref 4 0)])), (4, (.var [(.dat (.con .nilFunc)), (.fn 39 []), (.fn 41 []), (.fn 43 [.inl 3]), (.fn 44 [.inl 3])])), (6, (.row 5 1 (x.map elB)))])) (.iface 29 (.int .i64 20)) r))
  | 0 => ⟨fun h => (by cases h), fun h => (by cases h)⟩
  | fu + 1 => ⟨fun h => g_codec_newWriter_3_s_ret (g_writer_ret fu).1 (g_writer_ret fu).2 h, fun h => g_codec_newWriter_4_s_ret (g_writer_ret fu).1 (g_writer_ret fu).2 h⟩
theorem newWriter_ret : CT Tryd.prog 26 3 [] [(0, (.obj (tabP Tryd.prog))), (1, (.obj (errP 1))), (2, (.obj (errP 2)))] (CoR 3 ghosts (fun (_ : Unit) => ((rf 6 0), [(0, (.obj (tabP Tryd.prog))), (1, (.obj (errP 1))), (2, (.obj (errP 2))), (4, (.var [(.ref 6 0)])), (6, (.var [(.dat (.con .nilFunc)), (.fn 39 []), (.fn 41 []), (.fn 43 [.inl 4]), (.fn 44 [.inl 4])]))])) (.iface 29 (.int .i64 20)) (.inl ())) := by
  refine CT.of_T Tryd.func26 (by kernel_rfl) rfl ?_
  refine T_turn [] [] [] (mk 23 [] [(0, (.obj (tabP Tryd.prog))), (1, (.obj (errP 1))), (2, (.obj (errP 2)))]) (by kernel_rfl) ?_
  refine T_reg [] [] [] (mk 23 [] [(0, (.obj (tabP Tryd.prog))), (1, (.obj (errP 1))), (2, (.obj (errP 2)))]) _ (by kernel_rfl) (z2 zt) ?_
  refine T_reg [] [1] [] (mk 23 [(1, (rf 4 0))] [(4, (.var [(.ref 6 0)])), (6, (.var [(.dat (.con .nilFunc)), (.dat (.con .nilFunc)), (.dat (.con .nilFunc)), (.dat (.con .nilFunc)), (.dat (.con .nilFunc))])), (0, (.obj (tabP Tryd.prog))), (1, (.obj (errP 1))), (2, (.obj (errP 2)))]) _ (by kernel_rfl) (z8 zt) ?_
  refine T_reg [zn, zn, (zd (I 1))] [1] [] (mk 23 [(1, (rf 4 0))] [(4, (.var [(.ref 6 0)])), (6, (.var [(.dat (.con .nilFunc)), (.fn 39 []), (.dat (.con .nilFunc)), (.dat (.con .nilFunc)), (.dat (.con .nilFunc))])), (0, (.obj (tabP Tryd.prog))), (1, (.obj (errP 1))), (2, (.obj (errP 2)))]) _ (by kernel_rfl) (z5 (zc (rfl : (1 : Int) = 1) (z4 zt))) ?_
  refine T_reg [zn, zn, (zd (I 2))] [1] [] (mk 23 [(1, (rf 4 0))] [(4, (.var [(.ref 6 0)])), (6, (.var [(.dat (.con .nilFunc)), (.fn 39 []), (.fn 41 []), (.dat (.con .nilFunc)), (.dat (.con .nilFunc))])), (0, (.obj (tabP Tryd.prog))), (1, (.obj (errP 1))), (2, (.obj (errP 2)))]) _ (by kernel_rfl) (z5 (zc (rfl : (2 : Int) = 2) (z4 zt))) ?_
  refine T_reg [zn, zn, zn, (zd (I 3))] [1] [] (mk 23 [(1, (rf 4 0))] [(4, (.var [(.ref 6 0)])), (6, (.var [(.dat (.con .nilFunc)), (.fn 39 []), (.fn 41 []), (.fn 43 [.inl 4]), (.dat (.con .nilFunc))])), (0, (.obj (tabP Tryd.prog))), (1, (.obj (errP 1))), (2, (.obj (errP 2)))]) _ (by kernel_rfl) (z7 (zc (rfl : (3 : Int) = 3) (z4 zt))) ?_
  refine T_reg [zn, zn, zn, (zd (I 4))] [1] [] (mk 23 [(1, (rf 4 0))] [(4, (.var [(.ref 6 0)])), (6, (.var [(.dat (.con .nilFunc)), (.fn 39 []), (.fn 41 []), (.fn 43 [.inl 4]), (.fn 44 [.inl 4])])), (0, (.obj (tabP Tryd.prog))), (1, (.obj (errP 1))), (2, (.obj (errP 2)))]) _ (by kernel_rfl) (z7 (zc (rfl : (4 : Int) = 4) (z4 zt))) ?_
  refine T_reg [] [0] [] (mk 23 [(0, (rf 6 0))] [(4, (.var [(.ref 6 0)])), (6, (.var [(.dat (.con .nilFunc)), (.fn 39 []), (.fn 41 []), (.fn 43 [.inl 4]), (.fn 44 [.inl 4])])), (0, (.obj (tabP Tryd.prog))), (1, (.obj (errP 1))), (2, (.obj (errP 2)))]) _ (by kernel_rfl) (z4 zt) ?_
  refine T_arr [] [0] [] [0, 1, 2, 4, 6] (mk 23 [(0, (rf 6 0))] [(0, (.obj (tabP Tryd.prog))), (1, (.obj (errP 1))), (2, (.obj (errP 2))), (4, (.var [(.ref 6 0)])), (6, (.var [(.dat (.con .nilFunc)), (.fn 39 []), (.fn 41 []), (.fn 43 [.inl 4]), (.fn 44 [.inl 4])]))]) (by kernel_rfl) ?_
  refine T_ret ?_
  exact ⟨[(rf 6 0)], by kernel_rfl, rfl⟩
end Go.Proofs.YtimalbkjflfdoaaDoor

/-
  Go functions as partial functions, printed by auto.py: what each returns when its partial function has a value. Conditions: those of each theorem.
-/
namespace Go.Proofs.YtimalbkjflfdoaaDoor
open Go.DL
set_option maxRecDepth 100000
set_option maxHeartbeats 4000000
set_option linter.unusedVariables false
set_option linter.unusedSimpArgs false
noncomputable def g_codec_Encode (v_1 : Val) : Option (((List UInt8) × Int) ⊕ Unit) :=
  bd (g_codec_Check v_1) fun r_2 => if (r_2 != 0) = true then (some (.inl (([] : List UInt8), r_2))) else if (v_1.k == 0) = true then (ck False none) else if (v_1.k == 1) = true then (bdP (g_codec_newWriter_1 ([] : List UInt8) v_1) (fun r_7 => some (.inl (r_7, 0))) (some (.inr ()))) else if (v_1.k == 2) = true then (bdP (g_codec_newWriter_2 ([] : List UInt8) v_1) (fun r_13 => some (.inl (r_13, 0))) (some (.inr ()))) else if (v_1.k == 3) = true then (bdP ((g_writer 60).1 ([] : List UInt8) v_1) (fun r_19 => some (.inl (r_19, 0))) (some (.inr ()))) else ck ((v_1.k : Int) = 4) <| bdP ((g_writer 60).2 ([] : List UInt8) v_1) (fun r_25 => some (.inl (r_25, 0))) (some (.inr ()))
end Go.Proofs.YtimalbkjflfdoaaDoor

/-
  Go functions as partial functions, printed by auto.py: what each returns when its partial function has a value. Conditions: those of each theorem.
-/
namespace Go.Proofs.YtimalbkjflfdoaaDoor
open Go.DL
set_option maxRecDepth 100000
set_option maxHeartbeats 4000000
set_option linter.unusedVariables false
set_option linter.unusedSimpArgs false
theorem g_codec_Encode_ret {v_1 : Val} {r : ((List UInt8) × Int) ⊕ Unit} (h : g_codec_Encode v_1 = some r) : CT Tryd.prog 12 3 [(.agg (qVal v_1))] [(0, (.obj (tabP Tryd.prog))), (1, (.obj (errP 1))), (2, (.obj (errP 2)))] (CoR 3 ghosts (fun x => ((.tup [(false, [(.dat (.sl 1 (x.1.map elB)))]), (false, [(.dat (I x.2))])]), [(0, (.obj (tabP Tryd.prog))), (1, (.obj (errP 1))), (2, (.obj (errP 2)))])) (.iface 29 (.int .i64 20)) r) := by
  refine CT.of_T Tryd.func12 (by kernel_rfl) rfl ?_
  refine T_turn [] [0] [] (mk 19 [(0, (.agg (qVal v_1)))] [(0, (.obj (tabP Tryd.prog))), (1, (.obj (errP 1))), (2, (.obj (errP 2)))]) (by kernel_rfl) ?_
  refine T_reg [] [1] [] (mk 19 [(1, (rf 4 0))] [(4, (.var (qVal v_1))), (0, (.obj (tabP Tryd.prog))), (1, (.obj (errP 1))), (2, (.obj (errP 2)))]) _ (by kernel_rfl) (z6 zt) ?_
  refine T_seq ?_
  obtain ⟨r_2, e3, h⟩ := bd_inv h
  refine T_reg [zn, (zd (I r_2))] [1, 4] [] (mk 19 [(1, (rf 4 0)), (4, (di r_2))] [(4, (.var (qVal v_1))), (0, (.obj (tabP Tryd.prog))), (1, (.obj (errP 1))), (2, (.obj (errP 2)))]) _ (by kernel_rfl) (z3 (zc (g_codec_Check_ret e3) (z2 zt))) ?_
  refine T_reg [] [1, 4, 8] [] (mk 19 [(1, (rf 4 0)), (4, (di r_2)), (8, (db (r_2 != 0)))] [(4, (.var (qVal v_1))), (0, (.obj (tabP Tryd.prog))), (1, (.obj (errP 1))), (2, (.obj (errP 2)))]) _ (by kernel_rfl) (z4 zt) ?_
  refine T_cond (r_2 != 0) (by kernel_rfl) (fun b4 => ?_) (fun b4 => ?_)
  replace h := ite_t b4 h
  refine T_reg [] [2, 3] [4] (mk 19 [(2, (dt nilS)), (3, (di r_2))] [(0, (.obj (tabP Tryd.prog))), (1, (.obj (errP 1))), (2, (.obj (errP 2)))]) _ (by kernel_rfl) (z6 zt) ?_
  refine T_arr [.nilS 2 0 1] [2, 3] [] [0, 1, 2] (mk 19 [(2, (dt (.sl 1 (([] : List UInt8).map elB)))), (3, (di r_2))] [(0, (.obj (tabP Tryd.prog))), (1, (.obj (errP 1))), (2, (.obj (errP 2)))]) (by kernel_rfl) ?_
  refine T_ret ?_
  obtain rfl := some_inv h
  exact ⟨[(dt (.sl 1 (([] : List UInt8).map elB))), (di r_2)], by kernel_rfl, rfl⟩
  replace h := ite_f b4 h
  refine T_skip ?_
  refine T_arr [] [1, 4, 8] [] [0, 1, 2, 4] (mk 19 [(1, (rf 4 0)), (4, (di r_2)), (8, (db (r_2 != 0)))] [(0, (.obj (tabP Tryd.prog))), (1, (.obj (errP 1))), (2, (.obj (errP 2))), (4, (.var (qVal v_1)))]) (by kernel_rfl) ?_
  rcases Bool.eq_false_or_eq_true (v_1.k == 0) with b5 | b5
  replace h := ite_t b5 h
  exact absurd (ck_inv (p := False) h).1 id
  replace h := ite_f b5 h
  rcases Bool.eq_false_or_eq_true (v_1.k == 1) with b6 | b6
  replace h := ite_t b6 h
  obtain ⟨y8, e9, hk10, hz11⟩ := bdP_inv h
  rcases y8 with r_7 | u
  replace h := hk10 _ rfl
  refine T_seq (T_stC [{}, {}, {}, {}, { h := zd (I 1) }, {}, {}, {}, {}, {}, {}] _ [(0, 10, (rf 100006 0)), (1, 11, (rf 4 0)), (2, 12, (di v_1.k)), (3, 13, (rf 100006 0)), (4, 14, (rf 100006 1)), (5, 15, (rf 100006 1)), (6, 16, (.one (.fn 39 []))), (7, 17, (.agg (qVal v_1))), (8, 18, (ow 100008)), (9, 2, (ow 100008)), (10, 3, (di 0))] [(0, 100004, some (.var [(.ref 100006 0)])), (0, 100006, some (.var [(.dat (.con .nilFunc)), (.fn 39 []), (.fn 41 []), (.fn 43 [.inl 100004]), (.fn 44 [.inl 100004])])), (8, 100008, some (.row 5 1 (r_7.map elB)))] [0, 1, 2, 4, 100004, 100006, 100008] 11 [0, 0, 2, 1, 15, 31, 63, 0, 255, 511, 1023] 257 [0, 1, 257] [0, 8] none (by kernel_rfl) (by decide) (by kernel_rfl) (by kernel_rfl) (by kernel_rfl) (by kernel_rfl) (by kernel_rfl) (by kernel_rfl) (by kernel_rfl) (zs zt (zs zt (zs zt (zs zt (zs (eq_of_beq b6) (zs zt (zs zt (zs zt (zs zt (zs zt (zs zt zS))))))))))) ?_ (fun _ => ?_))
  intro c hc; simp only [List.mem_cons, List.not_mem_nil, or_false] at hc; rcases hc with rfl | rfl
  exact ⟨_, rfl, callU (hand := [0, 1, 2]) (nb := 100003) [] (newWriter_ret) [0, 1, 2, 4, 100004, 100006, 100008] (by decide) rfl rfl 0 _ _ _ (by kernel_rfl) (by kernel_rfl) (by kernel_rfl) (by kernel_rfl) (by kernel_rfl) (by kernel_rfl)⟩
  exact ⟨_, rfl, callU (hand := [0, 1, 2]) (nb := 100007) [] (CT.nil (n := 3) (ls := [(.agg (qVal v_1))]) (bx := [(0, (.obj (tabP Tryd.prog))), (1, (.obj (errP 1))), (2, (.obj (errP 2)))]) 5 1 (g_codec_newWriter_1_ret e9) (by kernel_rfl) (by kernel_rfl) (by kernel_rfl)) [0, 1, 2, 4, 100004, 100006, 100008] (by decide) rfl rfl 8 _ _ _ (by kernel_rfl) (by kernel_rfl) (by kernel_rfl) (by kernel_rfl) (by kernel_rfl) (by kernel_rfl)⟩
  refine T_turn [] [2, 3] [4, 100004, 100006] (mk 19 [(2, (ow 100008)), (3, (di 0))] [(0, (.obj (tabP Tryd.prog))), (1, (.obj (errP 1))), (2, (.obj (errP 2))), (100008, (.row 5 1 (r_7.map elB)))]) (by kernel_rfl) ?_
  refine T_arr [.ice 100008] [2, 3] [100008] [0, 1, 2] (mk 19 [(2, (dt (.sl 1 (r_7.map elB)))), (3, (di 0))] [(0, (.obj (tabP Tryd.prog))), (1, (.obj (errP 1))), (2, (.obj (errP 2)))]) (by kernel_rfl) ?_
  refine T_ret ?_
  obtain rfl := some_inv h
  exact ⟨[(dt (.sl 1 (r_7.map elB))), (di 0)], by kernel_rfl, rfl⟩
  replace h := hz11 rfl
  obtain rfl := some_inv h
  refine T_seq (T_stC [{}, {}, {}, {}, { h := zd (I 1) }, {}, {}, {}, {}, {}, {}] _ [(0, 10, (rf 100006 0)), (1, 11, (rf 4 0)), (2, 12, (di v_1.k)), (3, 13, (rf 100006 0)), (4, 14, (rf 100006 1)), (5, 15, (rf 100006 1)), (6, 16, (.one (.fn 39 []))), (7, 17, (.agg (qVal v_1)))] [(0, 100004, some (.var [(.ref 100006 0)])), (0, 100006, some (.var [(.dat (.con .nilFunc)), (.fn 39 []), (.fn 41 []), (.fn 43 [.inl 100004]), (.fn 44 [.inl 100004])]))] [0, 1, 2, 4, 100004, 100006] 11 [0, 0, 2, 1, 15, 31, 63, 0, 255, 511, 1023] 1793 [0, 1] [0, 8] (some 8) (by kernel_rfl) (by decide) (by kernel_rfl) (by kernel_rfl) (by kernel_rfl) (by kernel_rfl) (by kernel_rfl) (by kernel_rfl) (by kernel_rfl) (zs zt (zs zt (zs zt (zs zt (zs (eq_of_beq b6) (zs zt (zs zt (zs zt (zs zt (zs zt (zs zt zS))))))))))) ?_ (fun h => absurd h (by decide)))
  intro c hc; simp only [List.mem_cons, List.not_mem_nil, or_false] at hc; rcases hc with rfl | rfl
  exact ⟨_, rfl, callU (hand := [0, 1, 2]) (nb := 100003) [] (newWriter_ret) [0, 1, 2, 4, 100004, 100006] (by decide) rfl rfl 0 _ _ _ (by kernel_rfl) (by kernel_rfl) (by kernel_rfl) (by kernel_rfl) (by kernel_rfl) (by kernel_rfl)⟩
  refine ⟨_, rfl, callP (hand := [0, 1, 2]) (nb := 100007) [] (CT.nil (n := 3) (ls := [(.agg (qVal v_1))]) (bx := [(0, (.obj (tabP Tryd.prog))), (1, (.obj (errP 1))), (2, (.obj (errP 2)))]) 5 1 (g_codec_newWriter_1_ret e9) (by kernel_rfl) (by kernel_rfl) (by kernel_rfl)) rfl rfl 8 _ _ _ (by kernel_rfl) (by kernel_rfl) (by kernel_rfl) (by kernel_rfl) (fun _ _ hlk => ?_)⟩
  exact (show _ ∧ _ from ⟨rfl, ⟨_, rfl, lk3 ((after_lk (by kernel_rfl) rfl).trans (by rw [hlk 0 (by decide)]; kernel_rfl)) ((after_lk (by kernel_rfl) rfl).trans (by rw [hlk 1 (by decide)]; kernel_rfl)) ((after_lk (by kernel_rfl) rfl).trans (by rw [hlk 2 (by decide)]; kernel_rfl))⟩⟩)
  replace h := ite_f b6 h
  rcases Bool.eq_false_or_eq_true (v_1.k == 2) with b12 | b12
  replace h := ite_t b12 h
  obtain ⟨y14, e15, hk16, hz17⟩ := bdP_inv h
  rcases y14 with r_13 | u
  replace h := hk16 _ rfl
  refine T_seq (T_stC [{}, {}, {}, {}, { h := zd (I 2) }, {}, {}, {}, {}, {}, {}] _ [(0, 10, (rf 100006 0)), (1, 11, (rf 4 0)), (2, 12, (di v_1.k)), (3, 13, (rf 100006 0)), (4, 14, (rf 100006 2)), (5, 15, (rf 100006 2)), (6, 16, (.one (.fn 41 []))), (7, 17, (.agg (qVal v_1))), (8, 18, (ow 100008)), (9, 2, (ow 100008)), (10, 3, (di 0))] [(0, 100004, some (.var [(.ref 100006 0)])), (0, 100006, some (.var [(.dat (.con .nilFunc)), (.fn 39 []), (.fn 41 []), (.fn 43 [.inl 100004]), (.fn 44 [.inl 100004])])), (8, 100008, some (.row 5 1 (r_13.map elB)))] [0, 1, 2, 4, 100004, 100006, 100008] 11 [0, 0, 2, 1, 15, 31, 63, 0, 255, 511, 1023] 257 [0, 1, 257] [0, 8] none (by kernel_rfl) (by decide) (by kernel_rfl) (by kernel_rfl) (by kernel_rfl) (by kernel_rfl) (by kernel_rfl) (by kernel_rfl) (by kernel_rfl) (zs zt (zs zt (zs zt (zs zt (zs (eq_of_beq b12) (zs zt (zs zt (zs zt (zs zt (zs zt (zs zt zS))))))))))) ?_ (fun _ => ?_))
  intro c hc; simp only [List.mem_cons, List.not_mem_nil, or_false] at hc; rcases hc with rfl | rfl
  exact ⟨_, rfl, callU (hand := [0, 1, 2]) (nb := 100003) [] (newWriter_ret) [0, 1, 2, 4, 100004, 100006, 100008] (by decide) rfl rfl 0 _ _ _ (by kernel_rfl) (by kernel_rfl) (by kernel_rfl) (by kernel_rfl) (by kernel_rfl) (by kernel_rfl)⟩
  exact ⟨_, rfl, callU (hand := [0, 1, 2]) (nb := 100007) [] (CT.nil (n := 3) (ls := [(.agg (qVal v_1))]) (bx := [(0, (.obj (tabP Tryd.prog))), (1, (.obj (errP 1))), (2, (.obj (errP 2)))]) 5 1 (g_codec_newWriter_2_ret e15) (by kernel_rfl) (by kernel_rfl) (by kernel_rfl)) [0, 1, 2, 4, 100004, 100006, 100008] (by decide) rfl rfl 8 _ _ _ (by kernel_rfl) (by kernel_rfl) (by kernel_rfl) (by kernel_rfl) (by kernel_rfl) (by kernel_rfl)⟩
  refine T_turn [] [2, 3] [4, 100004, 100006] (mk 19 [(2, (ow 100008)), (3, (di 0))] [(0, (.obj (tabP Tryd.prog))), (1, (.obj (errP 1))), (2, (.obj (errP 2))), (100008, (.row 5 1 (r_13.map elB)))]) (by kernel_rfl) ?_
  refine T_arr [.ice 100008] [2, 3] [100008] [0, 1, 2] (mk 19 [(2, (dt (.sl 1 (r_13.map elB)))), (3, (di 0))] [(0, (.obj (tabP Tryd.prog))), (1, (.obj (errP 1))), (2, (.obj (errP 2)))]) (by kernel_rfl) ?_
  refine T_ret ?_
  obtain rfl := some_inv h
  exact ⟨[(dt (.sl 1 (r_13.map elB))), (di 0)], by kernel_rfl, rfl⟩
  replace h := hz17 rfl
  obtain rfl := some_inv h
  refine T_seq (T_stC [{}, {}, {}, {}, { h := zd (I 2) }, {}, {}, {}, {}, {}, {}] _ [(0, 10, (rf 100006 0)), (1, 11, (rf 4 0)), (2, 12, (di v_1.k)), (3, 13, (rf 100006 0)), (4, 14, (rf 100006 2)), (5, 15, (rf 100006 2)), (6, 16, (.one (.fn 41 []))), (7, 17, (.agg (qVal v_1)))] [(0, 100004, some (.var [(.ref 100006 0)])), (0, 100006, some (.var [(.dat (.con .nilFunc)), (.fn 39 []), (.fn 41 []), (.fn 43 [.inl 100004]), (.fn 44 [.inl 100004])]))] [0, 1, 2, 4, 100004, 100006] 11 [0, 0, 2, 1, 15, 31, 63, 0, 255, 511, 1023] 1793 [0, 1] [0, 8] (some 8) (by kernel_rfl) (by decide) (by kernel_rfl) (by kernel_rfl) (by kernel_rfl) (by kernel_rfl) (by kernel_rfl) (by kernel_rfl) (by kernel_rfl) (zs zt (zs zt (zs zt (zs zt (zs (eq_of_beq b12) (zs zt (zs zt (zs zt (zs zt (zs zt (zs zt zS))))))))))) ?_ (fun h => absurd h (by decide)))
  intro c hc; simp only [List.mem_cons, List.not_mem_nil, or_false] at hc; rcases hc with rfl | rfl
  exact ⟨_, rfl, callU (hand := [0, 1, 2]) (nb := 100003) [] (newWriter_ret) [0, 1, 2, 4, 100004, 100006] (by decide) rfl rfl 0 _ _ _ (by kernel_rfl) (by kernel_rfl) (by kernel_rfl) (by kernel_rfl) (by kernel_rfl) (by kernel_rfl)⟩
  refine ⟨_, rfl, callP (hand := [0, 1, 2]) (nb := 100007) [] (CT.nil (n := 3) (ls := [(.agg (qVal v_1))]) (bx := [(0, (.obj (tabP Tryd.prog))), (1, (.obj (errP 1))), (2, (.obj (errP 2)))]) 5 1 (g_codec_newWriter_2_ret e15) (by kernel_rfl) (by kernel_rfl) (by kernel_rfl)) rfl rfl 8 _ _ _ (by kernel_rfl) (by kernel_rfl) (by kernel_rfl) (by kernel_rfl) (fun _ _ hlk => ?_)⟩
  exact (show _ ∧ _ from ⟨rfl, ⟨_, rfl, lk3 ((after_lk (by kernel_rfl) rfl).trans (by rw [hlk 0 (by decide)]; kernel_rfl)) ((after_lk (by kernel_rfl) rfl).trans (by rw [hlk 1 (by decide)]; kernel_rfl)) ((after_lk (by kernel_rfl) rfl).trans (by rw [hlk 2 (by decide)]; kernel_rfl))⟩⟩)
  replace h := ite_f b12 h
  rcases Bool.eq_false_or_eq_true (v_1.k == 3) with b18 | b18
  replace h := ite_t b18 h
  obtain ⟨y20, e21, hk22, hz23⟩ := bdP_inv h
  rcases y20 with r_19 | u
  replace h := hk22 _ rfl
  refine T_seq (T_stC [{}, {}, {}, {}, { h := zd (I 3) }, {}, {}, {}, {}, {}, {}] _ [(0, 10, (rf 100006 0)), (1, 11, (rf 4 0)), (2, 12, (di v_1.k)), (3, 13, (rf 100006 0)), (4, 14, (rf 100006 3)), (5, 15, (rf 100006 3)), (6, 16, (.one (.fn 43 [.inl 100004]))), (7, 17, (.agg (qVal v_1))), (8, 18, (ow 100008)), (9, 2, (ow 100008)), (10, 3, (di 0))] [(0, 100004, some (.var [(.ref 100006 0)])), (0, 100006, some (.var [(.dat (.con .nilFunc)), (.fn 39 []), (.fn 41 []), (.fn 43 [.inl 100004]), (.fn 44 [.inl 100004])])), (8, 100008, some (.row 5 1 (r_19.map elB)))] [0, 1, 2, 4, 100004, 100006, 100008] 11 [0, 0, 2, 1, 15, 31, 63, 0, 255, 511, 1023] 257 [0, 1, 257] [0, 8] none (by kernel_rfl) (by decide) (by kernel_rfl) (by kernel_rfl) (by kernel_rfl) (by kernel_rfl) (by kernel_rfl) (by kernel_rfl) (by kernel_rfl) (zs zt (zs zt (zs zt (zs zt (zs (eq_of_beq b18) (zs zt (zs zt (zs zt (zs zt (zs zt (zs zt zS))))))))))) ?_ (fun _ => ?_))
  intro c hc; simp only [List.mem_cons, List.not_mem_nil, or_false] at hc; rcases hc with rfl | rfl
  exact ⟨_, rfl, callU (hand := [0, 1, 2]) (nb := 100003) [] (newWriter_ret) [0, 1, 2, 4, 100004, 100006, 100008] (by decide) rfl rfl 0 _ _ _ (by kernel_rfl) (by kernel_rfl) (by kernel_rfl) (by kernel_rfl) (by kernel_rfl) (by kernel_rfl)⟩
  exact ⟨_, rfl, callU (hand := [0, 1, 2, 100004, 100006]) (nb := 100007) [.inl 100004] (CT.nil (n := 5) (ls := [(.agg (qVal v_1)), (rf 3 0)]) (bx := [(0, (.obj (tabP Tryd.prog))), (1, (.obj (errP 1))), (2, (.obj (errP 2))), (3, (.var [(.ref 4 0)])), (4, (.var [(.dat (.con .nilFunc)), (.fn 39 []), (.fn 41 []), (.fn 43 [.inl 3]), (.fn 44 [.inl 3])]))]) 5 1 ((g_writer_ret 60).1 e21) (by kernel_rfl) (by kernel_rfl) (by kernel_rfl)) [0, 1, 2, 4, 100004, 100006, 100008] (by decide) rfl rfl 8 _ _ _ (by kernel_rfl) (by kernel_rfl) (by kernel_rfl) (by kernel_rfl) (by kernel_rfl) (by kernel_rfl)⟩
  refine T_turn [] [2, 3] [4, 100004, 100006] (mk 19 [(2, (ow 100008)), (3, (di 0))] [(0, (.obj (tabP Tryd.prog))), (1, (.obj (errP 1))), (2, (.obj (errP 2))), (100008, (.row 5 1 (r_19.map elB)))]) (by kernel_rfl) ?_
  refine T_arr [.ice 100008] [2, 3] [100008] [0, 1, 2] (mk 19 [(2, (dt (.sl 1 (r_19.map elB)))), (3, (di 0))] [(0, (.obj (tabP Tryd.prog))), (1, (.obj (errP 1))), (2, (.obj (errP 2)))]) (by kernel_rfl) ?_
  refine T_ret ?_
  obtain rfl := some_inv h
  exact ⟨[(dt (.sl 1 (r_19.map elB))), (di 0)], by kernel_rfl, rfl⟩
  replace h := hz23 rfl
  obtain rfl := some_inv h
  refine T_seq (T_stC [{}, {}, {}, {}, { h := zd (I 3) }, {}, {}, {}, {}, {}, {}] _ [(0, 10, (rf 100006 0)), (1, 11, (rf 4 0)), (2, 12, (di v_1.k)), (3, 13, (rf 100006 0)), (4, 14, (rf 100006 3)), (5, 15, (rf 100006 3)), (6, 16, (.one (.fn 43 [.inl 100004]))), (7, 17, (.agg (qVal v_1)))] [(0, 100004, some (.var [(.ref 100006 0)])), (0, 100006, some (.var [(.dat (.con .nilFunc)), (.fn 39 []), (.fn 41 []), (.fn 43 [.inl 100004]), (.fn 44 [.inl 100004])]))] [0, 1, 2, 4, 100004, 100006] 11 [0, 0, 2, 1, 15, 31, 63, 0, 255, 511, 1023] 1793 [0, 1] [0, 8] (some 8) (by kernel_rfl) (by decide) (by kernel_rfl) (by kernel_rfl) (by kernel_rfl) (by kernel_rfl) (by kernel_rfl) (by kernel_rfl) (by kernel_rfl) (zs zt (zs zt (zs zt (zs zt (zs (eq_of_beq b18) (zs zt (zs zt (zs zt (zs zt (zs zt (zs zt zS))))))))))) ?_ (fun h => absurd h (by decide)))
  intro c hc; simp only [List.mem_cons, List.not_mem_nil, or_false] at hc; rcases hc with rfl | rfl
  exact ⟨_, rfl, callU (hand := [0, 1, 2]) (nb := 100003) [] (newWriter_ret) [0, 1, 2, 4, 100004, 100006] (by decide) rfl rfl 0 _ _ _ (by kernel_rfl) (by kernel_rfl) (by kernel_rfl) (by kernel_rfl) (by kernel_rfl) (by kernel_rfl)⟩
  refine ⟨_, rfl, callP (hand := [0, 1, 2, 100004, 100006]) (nb := 100007) [.inl 100004] (CT.nil (n := 5) (ls := [(.agg (qVal v_1)), (rf 3 0)]) (bx := [(0, (.obj (tabP Tryd.prog))), (1, (.obj (errP 1))), (2, (.obj (errP 2))), (3, (.var [(.ref 4 0)])), (4, (.var [(.dat (.con .nilFunc)), (.fn 39 []), (.fn 41 []), (.fn 43 [.inl 3]), (.fn 44 [.inl 3])]))]) 5 1 ((g_writer_ret 60).1 e21) (by kernel_rfl) (by kernel_rfl) (by kernel_rfl)) rfl rfl 8 _ _ _ (by kernel_rfl) (by kernel_rfl) (by kernel_rfl) (by kernel_rfl) (fun _ _ hlk => ?_)⟩
  exact (show _ ∧ _ from ⟨rfl, ⟨_, rfl, lk3 ((after_lk (by kernel_rfl) rfl).trans (by rw [hlk 0 (by decide)]; kernel_rfl)) ((after_lk (by kernel_rfl) rfl).trans (by rw [hlk 1 (by decide)]; kernel_rfl)) ((after_lk (by kernel_rfl) rfl).trans (by rw [hlk 2 (by decide)]; kernel_rfl))⟩⟩)
  replace h := ite_f b18 h
  obtain ⟨c24, h⟩ := ck_inv h
  obtain ⟨y26, e27, hk28, hz29⟩ := bdP_inv h
  rcases y26 with r_25 | u
  replace h := hk28 _ rfl
  refine T_seq (T_stC [{}, {}, {}, {}, { h := zd (I 4) }, {}, {}, {}, {}, {}, {}] _ [(0, 10, (rf 100006 0)), (1, 11, (rf 4 0)), (2, 12, (di v_1.k)), (3, 13, (rf 100006 0)), (4, 14, (rf 100006 4)), (5, 15, (rf 100006 4)), (6, 16, (.one (.fn 44 [.inl 100004]))), (7, 17, (.agg (qVal v_1))), (8, 18, (ow 100008)), (9, 2, (ow 100008)), (10, 3, (di 0))] [(0, 100004, some (.var [(.ref 100006 0)])), (0, 100006, some (.var [(.dat (.con .nilFunc)), (.fn 39 []), (.fn 41 []), (.fn 43 [.inl 100004]), (.fn 44 [.inl 100004])])), (8, 100008, some (.row 5 1 (r_25.map elB)))] [0, 1, 2, 4, 100004, 100006, 100008] 11 [0, 0, 2, 1, 15, 31, 63, 0, 255, 511, 1023] 257 [0, 1, 257] [0, 8] none (by kernel_rfl) (by decide) (by kernel_rfl) (by kernel_rfl) (by kernel_rfl) (by kernel_rfl) (by kernel_rfl) (by kernel_rfl) (by kernel_rfl) (zs zt (zs zt (zs zt (zs zt (zs c24 (zs zt (zs zt (zs zt (zs zt (zs zt (zs zt zS))))))))))) ?_ (fun _ => ?_))
  intro c hc; simp only [List.mem_cons, List.not_mem_nil, or_false] at hc; rcases hc with rfl | rfl
  exact ⟨_, rfl, callU (hand := [0, 1, 2]) (nb := 100003) [] (newWriter_ret) [0, 1, 2, 4, 100004, 100006, 100008] (by decide) rfl rfl 0 _ _ _ (by kernel_rfl) (by kernel_rfl) (by kernel_rfl) (by kernel_rfl) (by kernel_rfl) (by kernel_rfl)⟩
  exact ⟨_, rfl, callU (hand := [0, 1, 2, 100004, 100006]) (nb := 100007) [.inl 100004] (CT.nil (n := 5) (ls := [(.agg (qVal v_1)), (rf 3 0)]) (bx := [(0, (.obj (tabP Tryd.prog))), (1, (.obj (errP 1))), (2, (.obj (errP 2))), (3, (.var [(.ref 4 0)])), (4, (.var [(.dat (.con .nilFunc)), (.fn 39 []), (.fn 41 []), (.fn 43 [.inl 3]), (.fn 44 [.inl 3])]))]) 5 1 ((g_writer_ret 60).2 e27) (by kernel_rfl) (by kernel_rfl) (by kernel_rfl)) [0, 1, 2, 4, 100004, 100006, 100008] (by decide) rfl rfl 8 _ _ _ (by kernel_rfl) (by kernel_rfl) (by kernel_rfl) (by kernel_rfl) (by kernel_rfl) (by kernel_rfl)⟩
  refine T_turn [] [2, 3] [4, 100004, 100006] (mk 19 [(2, (ow 100008)), (3, (di 0))] [(0, (.obj (tabP Tryd.prog))), (1, (.obj (errP 1))), (2, (.obj (errP 2))), (100008, (.row 5 1 (r_25.map elB)))]) (by kernel_rfl) ?_
  refine T_arr [.ice 100008] [2, 3] [100008] [0, 1, 2] (mk 19 [(2, (dt (.sl 1 (r_25.map elB)))), (3, (di 0))] [(0, (.obj (tabP Tryd.prog))), (1, (.obj (errP 1))), (2, (.obj (errP 2)))]) (by kernel_rfl) ?_
  refine T_ret ?_
  obtain rfl := some_inv h
  exact ⟨[(dt (.sl 1 (r_25.map elB))), (di 0)], by kernel_rfl, rfl⟩
  replace h := hz29 rfl
  obtain rfl := some_inv h
  refine T_seq (T_stC [{}, {}, {}, {}, { h := zd (I 4) }, {}, {}, {}, {}, {}, {}] _ [(0, 10, (rf 100006 0)), (1, 11, (rf 4 0)), (2, 12, (di v_1.k)), (3, 13, (rf 100006 0)), (4, 14, (rf 100006 4)), (5, 15, (rf 100006 4)), (6, 16, (.one (.fn 44 [.inl 100004]))), (7, 17, (.agg (qVal v_1)))] [(0, 100004, some (.var [(.ref 100006 0)])), (0, 100006, some (.var [(.dat (.con .nilFunc)), (.fn 39 []), (.fn 41 []), (.fn 43 [.inl 100004]), (.fn 44 [.inl 100004])]))] [0, 1, 2, 4, 100004, 100006] 11 [0, 0, 2, 1, 15, 31, 63, 0, 255, 511, 1023] 1793 [0, 1] [0, 8] (some 8) (by kernel_rfl) (by decide) (by kernel_rfl) (by kernel_rfl) (by kernel_rfl) (by kernel_rfl) (by kernel_rfl) (by kernel_rfl) (by kernel_rfl) (zs zt (zs zt (zs zt (zs zt (zs c24 (zs zt (zs zt (zs zt (zs zt (zs zt (zs zt zS))))))))))) ?_ (fun h => absurd h (by decide)))
  intro c hc; simp only [List.mem_cons, List.not_mem_nil, or_false] at hc; rcases hc with rfl | rfl
  exact ⟨_, rfl, callU (hand := [0, 1, 2]) (nb := 100003) [] (newWriter_ret) [0, 1, 2, 4, 100004, 100006] (by decide) rfl rfl 0 _ _ _ (by kernel_rfl) (by kernel_rfl) (by kernel_rfl) (by kernel_rfl) (by kernel_rfl) (by kernel_rfl)⟩
  refine ⟨_, rfl, callP (hand := [0, 1, 2, 100004, 100006]) (nb := 100007) [.inl 100004] (CT.nil (n := 5) (ls := [(.agg (qVal v_1)), (rf 3 0)]) (bx := [(0, (.obj (tabP Tryd.prog))), (1, (.obj (errP 1))), (2, (.obj (errP 2))), (3, (.var [(.ref 4 0)])), (4, (.var [(.dat (.con .nilFunc)), (.fn 39 []), (.fn 41 []), (.fn 43 [.inl 3]), (.fn 44 [.inl 3])]))]) 5 1 ((g_writer_ret 60).2 e27) (by kernel_rfl) (by kernel_rfl) (by kernel_rfl)) rfl rfl 8 _ _ _ (by kernel_rfl) (by kernel_rfl) (by kernel_rfl) (by kernel_rfl) (fun _ _ hlk => ?_)⟩
  exact (show _ ∧ _ from ⟨rfl, ⟨_, rfl, lk3 ((after_lk (by kernel_rfl) rfl).trans (by rw [hlk 0 (by decide)]; kernel_rfl)) ((after_lk (by kernel_rfl) rfl).trans (by rw [hlk 1 (by decide)]; kernel_rfl)) ((after_lk (by kernel_rfl) rfl).trans (by rw [hlk 2 (by decide)]; kernel_rfl))⟩⟩)

end Go.Proofs.YtimalbkjflfdoaaDoor

/-
  Go functions as partial functions, printed by auto.py: what each returns when its partial function has a value. Conditions: those of each theorem.
-/
namespace Go.Proofs.YtimalbkjflfdoaaDoor
open Go.DL
set_option maxRecDepth 100000
set_option maxHeartbeats 4000000
set_option linter.unusedVariables false
set_option linter.unusedSimpArgs false
noncomputable def g_law02_sane_j2 : Option ((Bool) ⊕ Unit) :=
  bd (g_codec_Check (⟨0, 0, ([] : List UInt8), ([] : List Val), ([] : List (List UInt8))⟩ : Val)) fun r_23 => some (.inl (r_23 == 1))
noncomputable def g_law02_sane_l3 (v : Nat) : Option ((Nat) ⊕ ((Bool) ⊕ Unit)) :=
  match v with | v_25 => if (decide (((v_25 : Nat) : Int) < ((([([105, 45, 48, 101] : List UInt8), ([105, 48, 51, 101] : List UInt8), ([48, 49, 58, 97] : List UInt8), ([100, 49, 58, 98, 105, 49, 101, 49, 58, 97, 105, 50, 101, 101] : List UInt8), ([105, 51, 101, 32] : List UInt8), ([] : List UInt8)]).length : Nat) : Int))) = true then (gn ([([105, 45, 48, 101] : List UInt8), ([105, 48, 51, 101] : List UInt8), ([48, 49, 58, 97] : List UInt8), ([100, 49, 58, 98, 105, 49, 101, 49, 58, 97, 105, 50, 101, 101] : List UInt8), ([105, 51, 101, 32] : List UInt8), ([] : List UInt8)]) v_25 fun x_28 => ck (x_28.length ≤ 140737488355328) <| bdP (g_codec_Decode x_28) (fun r_33 => if (r_33.2 != 20) = true then (up (some (.inl false))) else ckI (((v_25 : Nat) : Int) + 1) <| some (.inl (v_25 + 1))) (up (some (.inr ())))) else up (g_law02_sane_j2)
noncomputable def g_law02_sane_j1 (v_21 : Bool) : Option ((Bool) ⊕ Unit) :=
  if (v_21) = true then (some (.inl false)) else loopO g_law02_sane_l3 0
noncomputable def g_law02_sane : Option ((Bool) ⊕ Unit) :=
  bd (g_ref02_Int (-3)) fun r_1 => bd (g_ref02_Text ([97, 98] : List UInt8)) fun r_3 => bd (g_ref02_List ([r_1, r_3])) fun r_5 => bdP (g_codec_Encode r_5) (fun r_7 => bdP (g_codec_Decode ([100, 49, 58, 97, 105, 49, 101, 101] : List UInt8)) (fun r_12 => bd (g_codec_Get r_12.1 ([97] : List UInt8)) fun r_17 => bd (g_codec_Get r_12.1 ([98] : List UInt8)) fun r_19 => if (r_7.2 != 0) = true then (g_law02_sane_j1 true) else if (!(r_7.1 == ([108, 105, 45, 51, 101, 50, 58, 97, 98, 101] : List UInt8))) = true then (g_law02_sane_j1 true) else if (r_12.2 != 0) = true then (g_law02_sane_j1 true) else if (!(r_17.2)) = true then (g_law02_sane_j1 true) else if (r_19.2) = true then (g_law02_sane_j1 true) else if (r_17.1.k != 1) = true then (g_law02_sane_j1 true) else if (r_17.1.n != 1) = true then (g_law02_sane_j1 true) else bd (g_codec_Same 60 r_12.1 r_12.1) fun r_47 => if (!(r_47)) = true then (g_law02_sane_j1 true) else bd (g_codec_Same 60 r_12.1 r_17.1) fun r_50 => g_law02_sane_j1 (r_50)) (some (.inr ()))) (some (.inr ()))
noncomputable def g_law02_CodecEncodeSpec (v_1 : Val) : Option ((Bool) ⊕ Unit) :=
  bdP (g_law02_sane) (fun r_2 => if (!(r_2)) = true then (some (.inl false)) else bd (g_law02_few ([v_1])) fun r_8 => if (!(r_8)) = true then (some (.inl true)) else bdP (g_codec_Encode v_1) (fun r_11 => bd (g_ref02_Encode v_1) fun r_16 => if (r_11.1 == r_16.1) = true then (if (r_11.2 == r_16.2) = true then (bd (g_codec_Check v_1) fun r_20 => bd (g_ref02_Check v_1) fun r_22 => some (.inl (r_20 == r_22))) else some (.inl false)) else some (.inl false)) (some (.inr ()))) (some (.inr ()))
noncomputable def g_law02_CodecGetSpec_j1 (a_1 : Val) (key_3 : List UInt8) (b_2 : Val) (v_10 : Bool) : Option ((Bool) ⊕ Unit) :=
  if (v_10) = true then (some (.inl true)) else bd (g_codec_Get a_1 key_3) fun r_12 => bd (g_ref02_Get a_1 key_3) fun r_14 => bd (g_codec_Same 60 a_1 b_2) fun r_16 => bd (g_ref02_Same 60 a_1 b_2) fun r_18 => if (((r_16) == (r_18))) = true then (bd (g_codec_Same 60 a_1 a_1) fun r_21 => if (r_21) = true then (bd (g_ref02_Same 60 r_12.1 r_14.1) fun r_24 => if (r_24) = true then (some (.inl (((r_12.2) == (r_14.2))))) else some (.inl false)) else some (.inl false)) else some (.inl false)
noncomputable def g_law02_CodecGetSpec (a_1 : Val) (b_2 : Val) (key_3 : List UInt8) : Option ((Bool) ⊕ Unit) :=
  bdP (g_law02_sane) (fun r_4 => if (!(r_4)) = true then (some (.inl false)) else bd (g_law02_few ([a_1, b_2])) fun r_27 => if (!(r_27)) = true then (g_law02_CodecGetSpec_j1 a_1 key_3 b_2 true) else g_law02_CodecGetSpec_j1 a_1 key_3 b_2 (decide (((key_3.length : Nat) : Int) > 1000))) (some (.inr ()))
noncomputable def g_law02_CodecRoundTrip_j2 (raw_2 : List UInt8) : Option ((Bool) ⊕ Unit) :=
  bdP (g_codec_Decode raw_2) (fun r_19 => if (r_19.2 != 0) = true then (if (r_19.2 == 20) = true then (bd (g_codec_Same 60 r_19.1 (⟨0, 0, ([] : List UInt8), ([] : List Val), ([] : List (List UInt8))⟩ : Val)) fun r_26 => some (.inl (r_26))) else some (.inl false)) else bdP (g_codec_Encode r_19.1) (fun r_28 => if (r_28.2 == 0) = true then (if (r_28.1 == raw_2) = true then (bd (g_codec_Check r_19.1) fun r_35 => some (.inl (r_35 == 0))) else some (.inl false)) else some (.inl false)) (some (.inr ()))) (some (.inr ()))
noncomputable def g_law02_CodecRoundTrip_j3 (raw_2 : List UInt8) (v_43 : Bool) : Option ((Bool) ⊕ Unit) :=
  if (v_43) = true then (some (.inl false)) else g_law02_CodecRoundTrip_j2 raw_2
noncomputable def g_law02_CodecRoundTrip_j1 (v_1 : Val) (raw_2 : List UInt8) (v_9 : Bool) : Option ((Bool) ⊕ Unit) :=
  if (v_9) = true then (some (.inl true)) else bdP (g_codec_Encode v_1) (fun r_11 => bd (g_codec_Check v_1) fun r_16 => if (r_11.2 != r_16) = true then (some (.inl false)) else if (r_11.2 == 0) = true then (bdP (g_codec_Decode r_11.1) (fun r_38 => if (r_38.2 != 0) = true then (g_law02_CodecRoundTrip_j3 raw_2 true) else bd (g_codec_Same 60 v_1 r_38.1) fun r_46 => if (!(r_46)) = true then (g_law02_CodecRoundTrip_j3 raw_2 true) else bd (g_ref02_Same 60 v_1 r_38.1) fun r_49 => g_law02_CodecRoundTrip_j3 raw_2 (!(r_49))) (some (.inr ()))) else g_law02_CodecRoundTrip_j2 raw_2) (some (.inr ()))
noncomputable def g_law02_CodecRoundTrip (v_1 : Val) (raw_2 : List UInt8) : Option ((Bool) ⊕ Unit) :=
  bdP (g_law02_sane) (fun r_3 => if (!(r_3)) = true then (some (.inl false)) else bd (g_law02_few ([v_1])) fun r_51 => if (!(r_51)) = true then (g_law02_CodecRoundTrip_j1 v_1 raw_2 true) else g_law02_CodecRoundTrip_j1 v_1 raw_2 (decide (((raw_2.length : Nat) : Int) > 2000))) (some (.inr ()))
noncomputable def g_law02_CodecDifferent_j1 (v_1 : Val) (w_2 : Val) (r_12 : (List UInt8) × Int) (r_17 : (List UInt8) × Int) (v_22 : Bool) : Option ((Bool) ⊕ Unit) :=
  if (v_22) = true then (some (.inl true)) else bd (g_codec_Same 60 v_1 w_2) fun r_24 => if (r_24) = true then (some (.inl (r_12.1 == r_17.1))) else sb r_12.1 none (some (if ((r_17.1.length : Nat) : Int) < ((r_12.1.length : Nat) : Int) then ((r_17.1.length : Nat) : Int) else ((r_12.1.length : Nat) : Int))) fun s_27 => sb r_17.1 none (some (if ((r_17.1.length : Nat) : Int) < ((r_12.1.length : Nat) : Int) then ((r_17.1.length : Nat) : Int) else ((r_12.1.length : Nat) : Int))) fun s_29 => some (.inl (!(s_27 == s_29)))
noncomputable def g_law02_CodecDifferent (v_1 : Val) (w_2 : Val) : Option ((Bool) ⊕ Unit) :=
  bdP (g_law02_sane) (fun r_3 => if (!(r_3)) = true then (some (.inl false)) else bd (g_law02_few ([v_1, w_2])) fun r_9 => if (!(r_9)) = true then (some (.inl true)) else bdP (g_codec_Encode v_1) (fun r_12 => bdP (g_codec_Encode w_2) (fun r_17 => if (r_12.2 != 0) = true then (g_law02_CodecDifferent_j1 v_1 w_2 r_12 r_17 true) else g_law02_CodecDifferent_j1 v_1 w_2 r_12 r_17 (r_17.2 != 0)) (some (.inr ()))) (some (.inr ()))) (some (.inr ()))
end Go.Proofs.YtimalbkjflfdoaaDoor

/-
  Go functions as partial functions, printed by auto.py: what each returns when its partial function has a value. Conditions: those of each theorem.
-/
namespace Go.Proofs.YtimalbkjflfdoaaDoor
open Go.DL
set_option maxRecDepth 100000
set_option maxHeartbeats 4000000
set_option linter.unusedVariables false
set_option linter.unusedSimpArgs false
theorem g_law02_sane_ret {r : (Bool) ⊕ Unit} (h : g_law02_sane = some r) : CT Tryd.prog 10 3 [] [(0, (.obj (tabP Tryd.prog))), (1, (.obj (errP 1))), (2, (.obj (errP 2)))] (CoR 3 ghosts (fun x => ((db (x)), [(0, (.obj (tabP Tryd.prog))), (1, (.obj (errP 1))), (2, (.obj (errP 2)))])) (.iface 29 (.int .i64 20)) r) := by
  refine CT.of_T Tryd.func10 (by kernel_rfl) rfl ?_
  refine T_turn [] [] [] (mk 94 [] [(0, (.obj (tabP Tryd.prog))), (1, (.obj (errP 1))), (2, (.obj (errP 2)))]) (by kernel_rfl) ?_
  refine T_reg [] [] [] (mk 94 [] [(0, (.obj (tabP Tryd.prog))), (1, (.obj (errP 1))), (2, (.obj (errP 2)))]) _ (by kernel_rfl) (z2 zt) ?_
  obtain ⟨r_1, e2, h⟩ := bd_inv h
  obtain ⟨r_3, e4, h⟩ := bd_inv h
  refine T_seq (T_parts ?_)
  refine TL_part 2 [(zd (ndcVal r_1)), (zd (ndcVal r_3))] (mk 94 [(14, (.agg (qVal r_1))), (15, (.agg (qVal r_3)))] [(0, (.obj (tabP Tryd.prog))), (1, (.obj (errP 1))), (2, (.obj (errP 2)))]) _ (by kernel_rfl) (z1 (zc (g_ref02_Int_ret e2) (z1 (zc (g_ref02_Text_ret e4) zt)))) rfl ?_
  refine TL_part 1 [] (mk 94 [(14, (.agg (qVal r_1))), (15, (.agg (qVal r_3))), (16, (ow 19))] [(19, (.row 25 5 [ndcVal r_1, ndcVal r_3])), (0, (.obj (tabP Tryd.prog))), (1, (.obj (errP 1))), (2, (.obj (errP 2)))]) _ (by kernel_rfl) (z1 (zc (show dfill (fun i => some (i * 5, 5)) (List.replicate (2 * 5) .junk) [(0, [(.dat (I r_1.k)), (.dat (I r_1.n)), (.dat (.str r_1.s)), (.dat (.sl 5 (r_1.l.map encVal))), (.dat (.sl 1 (r_1.ks.map elStr)))]), (1, [(.dat (I r_3.k)), (.dat (I r_3.n)), (.dat (.str r_3.s)), (.dat (.sl 5 (r_3.l.map encVal))), (.dat (.sl 1 (r_3.ks.map elStr)))])] = some ((flat [ndcVal r_1, ndcVal r_3]).map .dat) from rfl) zt)) rfl ?_
  refine TL_turn [] [14, 15, 16] [] (mk 94 [(14, (.agg (qVal r_1))), (15, (.agg (qVal r_3))), (16, (ow 19))] [(19, (.row 25 5 ([r_1, r_3].map encVal))), (0, (.obj (tabP Tryd.prog))), (1, (.obj (errP 1))), (2, (.obj (errP 2)))]) (by rw [show [r_1, r_3].map encVal = [ndcVal r_1, ndcVal r_3] from by simp only [List.map_cons, List.map_nil, encVal_nd]]; kernel_rfl) ?_
  obtain ⟨r_5, e6, h⟩ := bd_inv h
  refine TL_turn [19] [14, 15, 16] [] (mk 94 [(14, (.agg (qVal r_1))), (15, (.agg (qVal r_3))), (16, (dt (.sl 5 ([r_1, r_3].map encVal))))] [(0, (.obj (tabP Tryd.prog))), (1, (.obj (errP 1))), (2, (.obj (errP 2)))]) (by kernel_rfl) ?_
  refine TL_part 1 [(zd (ndcVal r_5))] (mk 94 [(14, (.agg (qVal r_1))), (15, (.agg (qVal r_3))), (16, (dt (.sl 5 ([r_1, r_3].map encVal)))), (17, (.agg (qVal r_5)))] [(0, (.obj (tabP Tryd.prog))), (1, (.obj (errP 1))), (2, (.obj (errP 2)))]) _ (by kernel_rfl) (z1 (zc (g_ref02_List_ret e6) zt)) rfl ?_
  obtain ⟨y8, e9, hk10, hz11⟩ := bdP_inv h
  refine TL_ct 12 [0, 1, 2] 100003 _ _ [] (g_codec_Encode_ret e9) rfl rfl (by kernel_rfl) (by kernel_rfl) (by kernel_rfl) (by kernel_rfl) (fun l bx' hR => ?_) (fun d bx' hR => ?_)
  obtain ⟨r_7, rfl, rfl, rfl⟩ := CoR_ret hR
  replace h := hk10 _ rfl
  refine TL_turn [] [18] [] (mk 94 [(18, (.tup [(false, [(.dat (.sl 1 (r_7.1.map elB)))]), (false, [(.dat (I r_7.2))])]))] [(0, (.obj (tabP Tryd.prog))), (1, (.obj (errP 1))), (2, (.obj (errP 2)))]) (by kernel_rfl) ?_
  refine TL_part 5 [] (mk 94 [(1, (dt (.sl 1 (r_7.1.map elB)))), (2, (di r_7.2)), (13, (.tup [(false, [(.dat (.sl 1 (r_7.1.map elB)))]), (false, [(.dat (I r_7.2))])])), (18, (.tup [(false, [(.dat (.sl 1 (r_7.1.map elB)))]), (false, [(.dat (I r_7.2))])])), (19, (dt (.sl 1 (r_7.1.map elB)))), (20, (di r_7.2))] [(0, (.obj (tabP Tryd.prog))), (1, (.obj (errP 1))), (2, (.obj (errP 2)))]) _ (by kernel_rfl) (z8 (z2 zt)) rfl ?_
  refine TL_nilQ ?_
  refine T_turn [] [1, 2] [] (mk 94 [(1, (dt (.sl 1 (r_7.1.map elB)))), (2, (di r_7.2))] [(0, (.obj (tabP Tryd.prog))), (1, (.obj (errP 1))), (2, (.obj (errP 2)))]) (by kernel_rfl) ?_
  refine T_seq (T_parts ?_)
  refine TL_part 1 [] (mk 94 [(1, (dt (.sl 1 (r_7.1.map elB)))), (2, (di r_7.2)), (22, (ow 25))] [(25, (.row 5 1 (([100, 49, 58, 97, 105, 49, 101, 101] : List UInt8).map elB))), (0, (.obj (tabP Tryd.prog))), (1, (.obj (errP 1))), (2, (.obj (errP 2)))]) _ (by kernel_rfl) (z1 (zc (show dfill (fun i => some (i * 1, 1)) (List.replicate (8 * 1) .junk) [(0, [(.dat (.int .u8 100))]), (1, [(.dat (.int .u8 49))]), (2, [(.dat (.int .u8 58))]), (3, [(.dat (.int .u8 97))]), (4, [(.dat (.int .u8 105))]), (5, [(.dat (.int .u8 49))]), (6, [(.dat (.int .u8 101))]), (7, [(.dat (.int .u8 101))])] = some ((flat (([100, 49, 58, 97, 105, 49, 101, 101] : List UInt8).map elB)).map .dat) from rfl) zt)) rfl ?_
  refine TL_mark 28 5 23 25 ([100, 49, 58, 97, 105, 49, 101, 101] : List UInt8) rfl rfl rfl (by kernel_rfl) (by kernel_rfl) (by kernel_rfl) (by kernel_rfl) (by decide) ?_
  refine TL_turn [] [1, 2, 23] [] (mk 94 [(1, (dt (.sl 1 (r_7.1.map elB)))), (2, (di r_7.2)), (23, (ow 25))] [(25, (.obj (rowM 5 (([100, 49, 58, 97, 105, 49, 101, 101] : List UInt8))))), (0, (.obj (tabP Tryd.prog))), (1, (.obj (errP 1))), (2, (.obj (errP 2)))]) (by kernel_rfl) ?_
  refine TL_frzM (e := 5) (bs := ([100, 49, 58, 97, 105, 49, 101, 101] : List UInt8)) 25 (mk 94 [(1, (dt (.sl 1 (r_7.1.map elB)))), (2, (di r_7.2)), (23, (dt (.sl 1 (([100, 49, 58, 97, 105, 49, 101, 101] : List UInt8).map elB))))] [(0, (.obj (tabP Tryd.prog))), (1, (.obj (errP 1))), (2, (.obj (errP 2)))]) (by kernel_rfl) (by kernel_rfl) ?_
  obtain ⟨y13, e14, hk15, hz16⟩ := bdP_inv h
  refine TL_ct 16 [0, 1, 2] 100003 _ _ [] (g_codec_Decode_ret e14) rfl rfl (by kernel_rfl) (by kernel_rfl) (by kernel_rfl) (by kernel_rfl) (fun l bx' hR => ?_) (fun d bx' hR => ?_)
  obtain ⟨r_12, rfl, rfl, rfl⟩ := CoR_ret hR
  replace h := hk15 _ rfl
  refine TL_turn [] [1, 2, 24] [] (mk 94 [(1, (dt (.sl 1 (r_7.1.map elB)))), (2, (di r_7.2)), (24, (.tup [(true, (qVal r_12.1)), (false, [(.dat (I r_12.2))])]))] [(0, (.obj (tabP Tryd.prog))), (1, (.obj (errP 1))), (2, (.obj (errP 2)))]) (by kernel_rfl) ?_
  refine TL_part 6 [] (mk 94 [(1, (dt (.sl 1 (r_7.1.map elB)))), (2, (di r_7.2)), (3, (rf 6 0)), (4, (di r_12.2)), (21, (.tup [(true, (qVal r_12.1)), (false, [(.dat (I r_12.2))])])), (24, (.tup [(true, (qVal r_12.1)), (false, [(.dat (I r_12.2))])])), (25, (.agg (qVal r_12.1))), (26, (di r_12.2))] [(6, (.var (qVal r_12.1))), (0, (.obj (tabP Tryd.prog))), (1, (.obj (errP 1))), (2, (.obj (errP 2)))]) _ (by kernel_rfl) (z8 (z4 zt)) rfl ?_
  refine TL_nilQ ?_
  refine T_turn [] [1, 2, 3, 4] [] (mk 94 [(1, (dt (.sl 1 (r_7.1.map elB)))), (2, (di r_7.2)), (3, (rf 6 0)), (4, (di r_12.2))] [(6, (.var (qVal r_12.1))), (0, (.obj (tabP Tryd.prog))), (1, (.obj (errP 1))), (2, (.obj (errP 2)))]) (by kernel_rfl) ?_
  obtain ⟨r_17, e18, h⟩ := bd_inv h
  refine T_reg [zn, (zd (.tup [(ndcVal r_17.1), (B (r_17.2))]))] [1, 2, 3, 4, 5, 6] [] (mk 94 [(1, (dt (.sl 1 (r_7.1.map elB)))), (2, (di r_7.2)), (3, (rf 6 0)), (4, (di r_12.2)), (5, (rf 8 0)), (6, (db (r_17.2)))] [(8, (.var (qVal r_17.1))), (6, (.var (qVal r_12.1))), (0, (.obj (tabP Tryd.prog))), (1, (.obj (errP 1))), (2, (.obj (errP 2)))]) _ (by kernel_rfl) (z3 (zc (g_codec_Get_ret e18) (z8 (z4 zt)))) ?_
  obtain ⟨r_19, e20, h⟩ := bd_inv h
  refine T_reg [zn, (zd (.tup [(ndcVal r_19.1), (B (r_19.2))]))] [1, 2, 3, 4, 5, 6, 8] [10] (mk 94 [(1, (dt (.sl 1 (r_7.1.map elB)))), (2, (di r_7.2)), (3, (rf 6 0)), (4, (di r_12.2)), (5, (rf 8 0)), (6, (db (r_17.2))), (8, (db (r_19.2)))] [(8, (.var (qVal r_17.1))), (6, (.var (qVal r_12.1))), (0, (.obj (tabP Tryd.prog))), (1, (.obj (errP 1))), (2, (.obj (errP 2)))]) _ (by kernel_rfl) (z3 (zc (g_codec_Get_ret e20) (z8 (z4 zt)))) ?_
  refine T_seq ?_
  refine T_seqJ (α := Bool) (fun (v_21 : Bool) => (mk 94 [(75, (db (v_21)))] [(0, (.obj (tabP Tryd.prog))), (1, (.obj (errP 1))), (2, (.obj (errP 2)))])) (fun (v_21 : Bool) => g_law02_sane_j1 v_21 = some r) (fun v_21 h => ?_) ?_
  refine T_cond (v_21) (by kernel_rfl) (fun b22 => ?_) (fun b22 => ?_)
  replace h := ite_t b22 h
  refine T_reg [] [0] [] (mk 94 [(0, (db false))] [(0, (.obj (tabP Tryd.prog))), (1, (.obj (errP 1))), (2, (.obj (errP 2)))]) _ (by kernel_rfl) (z2 zt) ?_
  refine T_arr [] [0] [] [0, 1, 2] (mk 94 [(0, (db false))] [(0, (.obj (tabP Tryd.prog))), (1, (.obj (errP 1))), (2, (.obj (errP 2)))]) (by kernel_rfl) ?_
  refine T_ret ?_
  obtain rfl := some_inv h
  exact ⟨[(db false)], by kernel_rfl, rfl⟩
  replace h := ite_f b22 h
  refine T_skip ?_
  refine T_seqJ (α := Unit) (fun (_ : Unit) => (mk 94 [] [(0, (.obj (tabP Tryd.prog))), (1, (.obj (errP 1))), (2, (.obj (errP 2)))])) (fun (_ : Unit) => g_law02_sane_j2 = some r) (fun v h => ?_) ?_
  obtain ⟨r_23, e24, h⟩ := bd_inv h
  refine T_reg [zn, (zd (I r_23))] [0] [] (mk 94 [(0, (db (r_23 == 1)))] [(0, (.obj (tabP Tryd.prog))), (1, (.obj (errP 1))), (2, (.obj (errP 2)))]) _ (by kernel_rfl) (z3 (zc (show Ret Tryd.prog 14 [(.agg [(I 0), (I 0), (.str ([] : List UInt8)), nilS, nilS])] (I r_23) from (Ret.weak (g_codec_Check_ret e24) ⟨(Weak.agg ⟨Weak.refl _, Weak.refl _, Weak.refl _, Weak.nil 5, Weak.nil 1, trivial⟩), trivial⟩)) (z4 zt))) ?_
  refine T_arr [] [0] [] [0, 1, 2] (mk 94 [(0, (db (r_23 == 1)))] [(0, (.obj (tabP Tryd.prog))), (1, (.obj (errP 1))), (2, (.obj (errP 2)))]) (by kernel_rfl) ?_
  refine T_ret ?_
  obtain rfl := some_inv h
  exact ⟨[(db (r_23 == 1))], by kernel_rfl, rfl⟩
  refine T_reg [zn, (zd (I ((([([105, 45, 48, 101] : List UInt8), ([105, 48, 51, 101] : List UInt8), ([48, 49, 58, 97] : List UInt8), ([100, 49, 58, 98, 105, 49, 101, 49, 58, 97, 105, 50, 101, 101] : List UInt8), ([105, 51, 101, 32] : List UInt8), ([] : List UInt8)]).length : Nat) : Int)))] [76, 77, 78] [] (mk 94 [(76, (ow 79)), (77, (di ((([([105, 45, 48, 101] : List UInt8), ([105, 48, 51, 101] : List UInt8), ([48, 49, 58, 97] : List UInt8), ([100, 49, 58, 98, 105, 49, 101, 49, 58, 97, 105, 50, 101, 101] : List UInt8), ([105, 51, 101, 32] : List UInt8), ([] : List UInt8)]).length : Nat) : Int))), (78, (di 0))] [(79, (.row 9 1 ([([105, 45, 48, 101] : List UInt8), ([105, 48, 51, 101] : List UInt8), ([48, 49, 58, 97] : List UInt8), ([100, 49, 58, 98, 105, 49, 101, 49, 58, 97, 105, 50, 101, 101] : List UInt8), ([105, 51, 101, 32] : List UInt8), ([] : List UInt8)].map elStr))), (0, (.obj (tabP Tryd.prog))), (1, (.obj (errP 1))), (2, (.obj (errP 2)))]) _ (by kernel_rfl) (z1 (zc (show dfill (fun i => some (i * 1, 1)) (List.replicate (6 * 1) .junk) [(0, [(.dat (.str ([105, 45, 48, 101] : List UInt8)))]), (1, [(.dat (.str ([105, 48, 51, 101] : List UInt8)))]), (2, [(.dat (.str ([48, 49, 58, 97] : List UInt8)))]), (3, [(.dat (.str ([100, 49, 58, 98, 105, 49, 101, 49, 58, 97, 105, 50, 101, 101] : List UInt8)))]), (4, [(.dat (.str ([105, 51, 101, 32] : List UInt8)))]), (5, [(.dat (.str ([] : List UInt8)))])] = some ((flat ([([105, 45, 48, 101] : List UInt8), ([105, 48, 51, 101] : List UInt8), ([48, 49, 58, 97] : List UInt8), ([100, 49, 58, 98, 105, 49, 101, 49, 58, 97, 105, 50, 101, 101] : List UInt8), ([105, 51, 101, 32] : List UInt8), ([] : List UInt8)].map elStr)).map .dat) from rfl) (z1 (zc (len_s elStr ([([105, 45, 48, 101] : List UInt8), ([105, 48, 51, 101] : List UInt8), ([48, 49, 58, 97] : List UInt8), ([100, 49, 58, 98, 105, 49, 101, 49, 58, 97, 105, 50, 101, 101] : List UInt8), ([105, 51, 101, 32] : List UInt8), ([] : List UInt8)])) (z2 zt))))) ?_
  refine T_block ?_
  refine T_arr [] [76, 77, 78] [] [0, 1, 2, 79] _ (by kernel_rfl) (T_loopO (σ := Nat) (fun (v_25 : Nat) => (mk 94 [(76, (ow 79)), (77, (di ((([([105, 45, 48, 101] : List UInt8), ([105, 48, 51, 101] : List UInt8), ([48, 49, 58, 97] : List UInt8), ([100, 49, 58, 98, 105, 49, 101, 49, 58, 97, 105, 50, 101, 101] : List UInt8), ([105, 51, 101, 32] : List UInt8), ([] : List UInt8)]).length : Nat) : Int))), (78, (di ((v_25 : Nat) : Int)))] [(0, (.obj (tabP Tryd.prog))), (1, (.obj (errP 1))), (2, (.obj (errP 2))), (79, (.row 9 1 ([([105, 45, 48, 101] : List UInt8), ([105, 48, 51, 101] : List UInt8), ([48, 49, 58, 97] : List UInt8), ([100, 49, 58, 98, 105, 49, 101, 49, 58, 97, 105, 50, 101, 101] : List UInt8), ([105, 51, 101, 32] : List UInt8), ([] : List UInt8)].map elStr)))])) (g_law02_sane_l3) 0 h (fun v_25 y1 hy1 h => ?_))
  refine T_reg [] [76, 77, 78, 79] [] (mk 94 [(76, (ow 79)), (77, (di ((([([105, 45, 48, 101] : List UInt8), ([105, 48, 51, 101] : List UInt8), ([48, 49, 58, 97] : List UInt8), ([100, 49, 58, 98, 105, 49, 101, 49, 58, 97, 105, 50, 101, 101] : List UInt8), ([105, 51, 101, 32] : List UInt8), ([] : List UInt8)]).length : Nat) : Int))), (78, (di ((v_25 : Nat) : Int))), (79, (db (decide (((v_25 : Nat) : Int) < ((([([105, 45, 48, 101] : List UInt8), ([105, 48, 51, 101] : List UInt8), ([48, 49, 58, 97] : List UInt8), ([100, 49, 58, 98, 105, 49, 101, 49, 58, 97, 105, 50, 101, 101] : List UInt8), ([105, 51, 101, 32] : List UInt8), ([] : List UInt8)]).length : Nat) : Int)))))] [(0, (.obj (tabP Tryd.prog))), (1, (.obj (errP 1))), (2, (.obj (errP 2))), (79, (.row 9 1 ([([105, 45, 48, 101] : List UInt8), ([105, 48, 51, 101] : List UInt8), ([48, 49, 58, 97] : List UInt8), ([100, 49, 58, 98, 105, 49, 101, 49, 58, 97, 105, 50, 101, 101] : List UInt8), ([105, 51, 101, 32] : List UInt8), ([] : List UInt8)].map elStr)))]) _ (by kernel_rfl) (z2 zt) ?_
  refine T_seq ?_
  refine T_cond (decide (((v_25 : Nat) : Int) < ((([([105, 45, 48, 101] : List UInt8), ([105, 48, 51, 101] : List UInt8), ([48, 49, 58, 97] : List UInt8), ([100, 49, 58, 98, 105, 49, 101, 49, 58, 97, 105, 50, 101, 101] : List UInt8), ([105, 51, 101, 32] : List UInt8), ([] : List UInt8)]).length : Nat) : Int))) (by kernel_rfl) (fun b27 => ?_) (fun b27 => ?_)
  replace h := ite_t b27 h
  refine T_skip ?_
  refine T_seq ?_
  refine T_block ?_
  obtain ⟨x_28, e29, e30, e31, h⟩ := gn_inv elStr h
  refine T_reg [zn, (zd (.str x_28))] [10, 76, 77, 78] [] (mk 94 [(10, (dt (.str x_28))), (76, (ow 79)), (77, (di ((([([105, 45, 48, 101] : List UInt8), ([105, 48, 51, 101] : List UInt8), ([48, 49, 58, 97] : List UInt8), ([100, 49, 58, 98, 105, 49, 101, 49, 58, 97, 105, 50, 101, 101] : List UInt8), ([105, 51, 101, 32] : List UInt8), ([] : List UInt8)]).length : Nat) : Int))), (78, (di ((v_25 : Nat) : Int)))] [(0, (.obj (tabP Tryd.prog))), (1, (.obj (errP 1))), (2, (.obj (errP 2))), (79, (.row 9 1 ([([105, 45, 48, 101] : List UInt8), ([105, 48, 51, 101] : List UInt8), ([48, 49, 58, 97] : List UInt8), ([100, 49, 58, 98, 105, 49, 101, 49, 58, 97, 105, 50, 101, 101] : List UInt8), ([105, 51, 101, 32] : List UInt8), ([] : List UInt8)].map elStr)))]) _ (by kernel_rfl) (z1 (zc e30 (z1 (zc e31 (z2 zt))))) ?_
  refine T_seq (T_parts ?_)
  refine TL_part 1 [] (mk 94 [(10, (dt (.str x_28))), (76, (ow 79)), (77, (di ((([([105, 45, 48, 101] : List UInt8), ([105, 48, 51, 101] : List UInt8), ([48, 49, 58, 97] : List UInt8), ([100, 49, 58, 98, 105, 49, 101, 49, 58, 97, 105, 50, 101, 101] : List UInt8), ([105, 51, 101, 32] : List UInt8), ([] : List UInt8)]).length : Nat) : Int))), (78, (di ((v_25 : Nat) : Int))), (83, (dt (.str x_28)))] [(0, (.obj (tabP Tryd.prog))), (1, (.obj (errP 1))), (2, (.obj (errP 2))), (79, (.row 9 1 ([([105, 45, 48, 101] : List UInt8), ([105, 48, 51, 101] : List UInt8), ([48, 49, 58, 97] : List UInt8), ([100, 49, 58, 98, 105, 49, 101, 49, 58, 97, 105, 50, 101, 101] : List UInt8), ([105, 51, 101, 32] : List UInt8), ([] : List UInt8)].map elStr)))]) _ (by kernel_rfl) (z2 zt) rfl ?_
  obtain ⟨c32, h⟩ := ck_inv h
  refine TL_bytes 9 28 5 84 87 x_28 rfl rfl rfl (by kernel_rfl) (by kernel_rfl) (by kernel_rfl) (by kernel_rfl) c32 (by kernel_rfl) ?_
  refine TL_turn [] [76, 77, 78, 84] [] (mk 94 [(76, (ow 79)), (77, (di ((([([105, 45, 48, 101] : List UInt8), ([105, 48, 51, 101] : List UInt8), ([48, 49, 58, 97] : List UInt8), ([100, 49, 58, 98, 105, 49, 101, 49, 58, 97, 105, 50, 101, 101] : List UInt8), ([105, 51, 101, 32] : List UInt8), ([] : List UInt8)]).length : Nat) : Int))), (78, (di ((v_25 : Nat) : Int))), (84, (ow 87))] [(87, (.obj (rowM 5 x_28))), (0, (.obj (tabP Tryd.prog))), (1, (.obj (errP 1))), (2, (.obj (errP 2))), (79, (.row 9 1 ([([105, 45, 48, 101] : List UInt8), ([105, 48, 51, 101] : List UInt8), ([48, 49, 58, 97] : List UInt8), ([100, 49, 58, 98, 105, 49, 101, 49, 58, 97, 105, 50, 101, 101] : List UInt8), ([105, 51, 101, 32] : List UInt8), ([] : List UInt8)].map elStr)))]) (by kernel_rfl) ?_
  refine TL_frzM (e := 5) (bs := x_28) 87 (mk 94 [(76, (ow 79)), (77, (di ((([([105, 45, 48, 101] : List UInt8), ([105, 48, 51, 101] : List UInt8), ([48, 49, 58, 97] : List UInt8), ([100, 49, 58, 98, 105, 49, 101, 49, 58, 97, 105, 50, 101, 101] : List UInt8), ([105, 51, 101, 32] : List UInt8), ([] : List UInt8)]).length : Nat) : Int))), (78, (di ((v_25 : Nat) : Int))), (84, (dt (.sl 1 (x_28.map elB))))] [(0, (.obj (tabP Tryd.prog))), (1, (.obj (errP 1))), (2, (.obj (errP 2))), (79, (.row 9 1 ([([105, 45, 48, 101] : List UInt8), ([105, 48, 51, 101] : List UInt8), ([48, 49, 58, 97] : List UInt8), ([100, 49, 58, 98, 105, 49, 101, 49, 58, 97, 105, 50, 101, 101] : List UInt8), ([105, 51, 101, 32] : List UInt8), ([] : List UInt8)].map elStr)))]) (by kernel_rfl) (by kernel_rfl) ?_
  obtain ⟨y34, e35, hk36, hz37⟩ := bdP_inv h
  refine TL_ct 16 [0, 1, 2] 100003 _ _ [] (g_codec_Decode_ret e35) rfl rfl (by kernel_rfl) (by kernel_rfl) (by kernel_rfl) (by kernel_rfl) (fun l bx' hR => ?_) (fun d bx' hR => ?_)
  obtain ⟨r_33, rfl, rfl, rfl⟩ := CoR_ret hR
  replace h := hk36 _ rfl
  refine TL_turn [] [76, 77, 78, 85] [] (mk 94 [(76, (ow 79)), (77, (di ((([([105, 45, 48, 101] : List UInt8), ([105, 48, 51, 101] : List UInt8), ([48, 49, 58, 97] : List UInt8), ([100, 49, 58, 98, 105, 49, 101, 49, 58, 97, 105, 50, 101, 101] : List UInt8), ([105, 51, 101, 32] : List UInt8), ([] : List UInt8)]).length : Nat) : Int))), (78, (di ((v_25 : Nat) : Int))), (85, (.tup [(true, (qVal r_33.1)), (false, [(.dat (I r_33.2))])]))] [(79, (.row 9 1 ([([105, 45, 48, 101] : List UInt8), ([105, 48, 51, 101] : List UInt8), ([48, 49, 58, 97] : List UInt8), ([100, 49, 58, 98, 105, 49, 101, 49, 58, 97, 105, 50, 101, 101] : List UInt8), ([105, 51, 101, 32] : List UInt8), ([] : List UInt8)].map elStr))), (0, (.obj (tabP Tryd.prog))), (1, (.obj (errP 1))), (2, (.obj (errP 2)))]) (by kernel_rfl) ?_
  refine TL_part 6 [] (mk 94 [(11, (rf 14 0)), (12, (di r_33.2)), (76, (ow 79)), (77, (di ((([([105, 45, 48, 101] : List UInt8), ([105, 48, 51, 101] : List UInt8), ([48, 49, 58, 97] : List UInt8), ([100, 49, 58, 98, 105, 49, 101, 49, 58, 97, 105, 50, 101, 101] : List UInt8), ([105, 51, 101, 32] : List UInt8), ([] : List UInt8)]).length : Nat) : Int))), (78, (di ((v_25 : Nat) : Int))), (82, (.tup [(true, (qVal r_33.1)), (false, [(.dat (I r_33.2))])])), (85, (.tup [(true, (qVal r_33.1)), (false, [(.dat (I r_33.2))])])), (86, (.agg (qVal r_33.1))), (87, (di r_33.2))] [(14, (.var (qVal r_33.1))), (79, (.row 9 1 ([([105, 45, 48, 101] : List UInt8), ([105, 48, 51, 101] : List UInt8), ([48, 49, 58, 97] : List UInt8), ([100, 49, 58, 98, 105, 49, 101, 49, 58, 97, 105, 50, 101, 101] : List UInt8), ([105, 51, 101, 32] : List UInt8), ([] : List UInt8)].map elStr))), (0, (.obj (tabP Tryd.prog))), (1, (.obj (errP 1))), (2, (.obj (errP 2)))]) _ (by kernel_rfl) (z8 (z4 zt)) rfl ?_
  refine TL_nilQ ?_
  refine T_turn [] [12, 76, 77, 78] [14] (mk 94 [(12, (di r_33.2)), (76, (ow 79)), (77, (di ((([([105, 45, 48, 101] : List UInt8), ([105, 48, 51, 101] : List UInt8), ([48, 49, 58, 97] : List UInt8), ([100, 49, 58, 98, 105, 49, 101, 49, 58, 97, 105, 50, 101, 101] : List UInt8), ([105, 51, 101, 32] : List UInt8), ([] : List UInt8)]).length : Nat) : Int))), (78, (di ((v_25 : Nat) : Int)))] [(79, (.row 9 1 ([([105, 45, 48, 101] : List UInt8), ([105, 48, 51, 101] : List UInt8), ([48, 49, 58, 97] : List UInt8), ([100, 49, 58, 98, 105, 49, 101, 49, 58, 97, 105, 50, 101, 101] : List UInt8), ([105, 51, 101, 32] : List UInt8), ([] : List UInt8)].map elStr))), (0, (.obj (tabP Tryd.prog))), (1, (.obj (errP 1))), (2, (.obj (errP 2)))]) (by kernel_rfl) ?_
  refine T_reg [] [76, 77, 78, 89] [] (mk 94 [(76, (ow 79)), (77, (di ((([([105, 45, 48, 101] : List UInt8), ([105, 48, 51, 101] : List UInt8), ([48, 49, 58, 97] : List UInt8), ([100, 49, 58, 98, 105, 49, 101, 49, 58, 97, 105, 50, 101, 101] : List UInt8), ([105, 51, 101, 32] : List UInt8), ([] : List UInt8)]).length : Nat) : Int))), (78, (di ((v_25 : Nat) : Int))), (89, (db (r_33.2 != 20)))] [(79, (.row 9 1 ([([105, 45, 48, 101] : List UInt8), ([105, 48, 51, 101] : List UInt8), ([48, 49, 58, 97] : List UInt8), ([100, 49, 58, 98, 105, 49, 101, 49, 58, 97, 105, 50, 101, 101] : List UInt8), ([105, 51, 101, 32] : List UInt8), ([] : List UInt8)].map elStr))), (0, (.obj (tabP Tryd.prog))), (1, (.obj (errP 1))), (2, (.obj (errP 2)))]) _ (by kernel_rfl) (z4 zt) ?_
  refine T_cond (r_33.2 != 20) (by kernel_rfl) (fun b38 => ?_) (fun b38 => ?_)
  replace h := ite_t b38 h
  refine T_reg [] [0] [79] (mk 94 [(0, (db false))] [(0, (.obj (tabP Tryd.prog))), (1, (.obj (errP 1))), (2, (.obj (errP 2)))]) _ (by kernel_rfl) (z2 zt) ?_
  refine T_arr [] [0] [] [0, 1, 2] (mk 94 [(0, (db false))] [(0, (.obj (tabP Tryd.prog))), (1, (.obj (errP 1))), (2, (.obj (errP 2)))]) (by kernel_rfl) ?_
  refine T_ret ?_
  replace h := up_inv h hy1
  obtain rfl := some_inv h
  exact ⟨[(db false)], by kernel_rfl, rfl⟩
  replace h := ite_f b38 h
  refine T_skip ?_
  obtain ⟨c39, h⟩ := ckI_inv h
  exact T_regJ [(zd (I ((v_25 + 1 : Nat) : Int)))] [] [76, 77, 78] [] [0, 1, 2, 79] _ _ (by kernel_rfl) (z1 (zc c39 (z2 zt))) (fun s hs => Exists.intro (v_25 + 1) (And.intro h hs))
  obtain ⟨rfl, rfl, hlk⟩ := CoR_pan hR
  replace h := hz37 rfl
  replace h := up_inv h hy1
  obtain rfl := some_inv h
  exact (show _ ∧ _ from ⟨rfl, ⟨_, rfl, lk3 ((after_lk (by kernel_rfl) rfl).trans (by rw [hlk 0 (by decide)]; kernel_rfl)) ((after_lk (by kernel_rfl) rfl).trans (by rw [hlk 1 (by decide)]; kernel_rfl)) ((after_lk (by kernel_rfl) rfl).trans (by rw [hlk 2 (by decide)]; kernel_rfl))⟩⟩)
  replace h := ite_f b27 h
  refine T_exit ?_
  replace h := up_inv h hy1
  exact Exists.intro () (And.intro h (arr [] [] [79] [0, 1, 2] (by kernel_rfl)))
  rcases Bool.eq_false_or_eq_true (r_7.2 != 0) with b40 | b40
  replace h := ite_t b40 h
  exact T_regJ [zn, zn, zn, zg, zg, zg, (zd (B true)), zn, zg, zg, (zd (B true)), zn, zg, zg, (zd (B true)), zn, zg, (zd (B true)), zn, zg, zg, zg, (zd (B true)), zn, zg, zg, zg, (zd (B true)), zn, zg, zg, zg, zg, (zd (B true)), zn, zg, zg, zg, (zd (B true))] [] [75] [8, 6] [0, 1, 2] _ _ (by kernel_rfl) (z6 (zc (gd_tf b40) (zc (gd_tf b40) (zc (gd_tf b40) (z1 (zc b40 (z2 (zc (gd_tf (rfl : true = true)) (zc (gd_tf (rfl : true = true)) (z1 (zc (rfl : true = true) (z2 (zc (gd_tf (rfl : true = true)) (zc (gd_tf (rfl : true = true)) (z1 (zc (rfl : true = true) (z2 (zc (gd_tf (rfl : true = true)) (z1 (zc (rfl : true = true) (z2 (zc (gd_tf (rfl : true = true)) (zc (gd_tf (rfl : true = true)) (zc (gd_tf (rfl : true = true)) (z1 (zc (rfl : true = true) (z2 (zc (gd_tf (rfl : true = true)) (zc (gd_tf (rfl : true = true)) (zc (gd_tf (rfl : true = true)) (z1 (zc (rfl : true = true) (z2 (zc (gd_tf (rfl : true = true)) (zc (gd_tf (rfl : true = true)) (zc (gd_tf (rfl : true = true)) (zc (gd_tf (rfl : true = true)) (z1 (zc (rfl : true = true) (z2 (zc (gd_tf (rfl : true = true)) (zc (gd_tf (rfl : true = true)) (zc (gd_tf (rfl : true = true)) (z1 (zc (rfl : true = true) zt))))))))))))))))))))))))))))))))))))))))))))) (fun s hs => Exists.intro true (And.intro h hs))
  replace h := ite_f b40 h
  rcases Bool.eq_false_or_eq_true (!(r_7.1 == ([108, 105, 45, 51, 101, 50, 58, 97, 98, 101] : List UInt8))) with b41 | b41
  replace h := ite_t b41 h
  exact T_regJ [zn, zn, zn, zn, (zd (.str r_7.1)), zn, (zd (B false)), zn, zg, zg, (zd (B true)), zn, zg, zg, (zd (B true)), zn, zg, (zd (B true)), zn, zg, zg, zg, (zd (B true)), zn, zg, zg, zg, (zd (B true)), zn, zg, zg, zg, zg, (zd (B true)), zn, zg, zg, zg, (zd (B true))] [] [75] [8, 6] [0, 1, 2] _ _ (by kernel_rfl) (z6 (zc (gd_ff b40) (z1 (zc (gd_ff b40) (zc (rfl : r_7.1.map elB = r_7.1.map elB) (zc (gd_ff b40) (z2 (zc b40 (z2 (zc (gd_tf b41) (zc (gd_tf b41) (z1 (zc b41 (z2 (zc (gd_tf (rfl : true = true)) (zc (gd_tf (rfl : true = true)) (z1 (zc (rfl : true = true) (z2 (zc (gd_tf (rfl : true = true)) (z1 (zc (rfl : true = true) (z2 (zc (gd_tf (rfl : true = true)) (zc (gd_tf (rfl : true = true)) (zc (gd_tf (rfl : true = true)) (z1 (zc (rfl : true = true) (z2 (zc (gd_tf (rfl : true = true)) (zc (gd_tf (rfl : true = true)) (zc (gd_tf (rfl : true = true)) (z1 (zc (rfl : true = true) (z2 (zc (gd_tf (rfl : true = true)) (zc (gd_tf (rfl : true = true)) (zc (gd_tf (rfl : true = true)) (zc (gd_tf (rfl : true = true)) (z1 (zc (rfl : true = true) (z2 (zc (gd_tf (rfl : true = true)) (zc (gd_tf (rfl : true = true)) (zc (gd_tf (rfl : true = true)) (z1 (zc (rfl : true = true) zt))))))))))))))))))))))))))))))))))))))))))))))) (fun s hs => Exists.intro true (And.intro h hs))
  replace h := ite_f b41 h
  rcases Bool.eq_false_or_eq_true (r_12.2 != 0) with b42 | b42
  replace h := ite_t b42 h
  exact T_regJ [zn, zn, zn, zn, (zd (.str r_7.1)), zn, (zd (B false)), zn, zn, zn, (zd (B false)), zn, zg, zg, (zd (B true)), zn, zg, (zd (B true)), zn, zg, zg, zg, (zd (B true)), zn, zg, zg, zg, (zd (B true)), zn, zg, zg, zg, zg, (zd (B true)), zn, zg, zg, zg, (zd (B true))] [] [75] [8, 6] [0, 1, 2] _ _ (by kernel_rfl) (z6 (zc (gd_ff b40) (z1 (zc (gd_ff b40) (zc (rfl : r_7.1.map elB = r_7.1.map elB) (zc (gd_ff b40) (z2 (zc b40 (z2 (zc (gd_ff b41) (z1 (zc (gd_ff b41) (z2 (zc b41 (z2 (zc (gd_tf b42) (zc (gd_tf b42) (z1 (zc b42 (z2 (zc (gd_tf (rfl : true = true)) (z1 (zc (rfl : true = true) (z2 (zc (gd_tf (rfl : true = true)) (zc (gd_tf (rfl : true = true)) (zc (gd_tf (rfl : true = true)) (z1 (zc (rfl : true = true) (z2 (zc (gd_tf (rfl : true = true)) (zc (gd_tf (rfl : true = true)) (zc (gd_tf (rfl : true = true)) (z1 (zc (rfl : true = true) (z2 (zc (gd_tf (rfl : true = true)) (zc (gd_tf (rfl : true = true)) (zc (gd_tf (rfl : true = true)) (zc (gd_tf (rfl : true = true)) (z1 (zc (rfl : true = true) (z2 (zc (gd_tf (rfl : true = true)) (zc (gd_tf (rfl : true = true)) (zc (gd_tf (rfl : true = true)) (z1 (zc (rfl : true = true) zt)))))))))))))))))))))))))))))))))))))))))))))))) (fun s hs => Exists.intro true (And.intro h hs))
  replace h := ite_f b42 h
  rcases Bool.eq_false_or_eq_true (!(r_17.2)) with b43 | b43
  replace h := ite_t b43 h
  exact T_regJ [zn, zn, zn, zn, (zd (.str r_7.1)), zn, (zd (B false)), zn, zn, zn, (zd (B false)), zn, zn, zn, (zd (B false)), zn, zg, (zd (B true)), zn, zg, zg, zg, (zd (B true)), zn, zg, zg, zg, (zd (B true)), zn, zg, zg, zg, zg, (zd (B true)), zn, zg, zg, zg, (zd (B true))] [] [75] [8, 6] [0, 1, 2] _ _ (by kernel_rfl) (z6 (zc (gd_ff b40) (z1 (zc (gd_ff b40) (zc (rfl : r_7.1.map elB = r_7.1.map elB) (zc (gd_ff b40) (z2 (zc b40 (z2 (zc (gd_ff b41) (z1 (zc (gd_ff b41) (z2 (zc b41 (z2 (zc (gd_ff b42) (z1 (zc (gd_ff b42) (z2 (zc b42 (z2 (zc (gd_tf b43) (z1 (zc b43 (z2 (zc (gd_tf (rfl : true = true)) (zc (gd_tf (rfl : true = true)) (zc (gd_tf (rfl : true = true)) (z1 (zc (rfl : true = true) (z2 (zc (gd_tf (rfl : true = true)) (zc (gd_tf (rfl : true = true)) (zc (gd_tf (rfl : true = true)) (z1 (zc (rfl : true = true) (z2 (zc (gd_tf (rfl : true = true)) (zc (gd_tf (rfl : true = true)) (zc (gd_tf (rfl : true = true)) (zc (gd_tf (rfl : true = true)) (z1 (zc (rfl : true = true) (z2 (zc (gd_tf (rfl : true = true)) (zc (gd_tf (rfl : true = true)) (zc (gd_tf (rfl : true = true)) (z1 (zc (rfl : true = true) zt))))))))))))))))))))))))))))))))))))))))))))))))) (fun s hs => Exists.intro true (And.intro h hs))
  replace h := ite_f b43 h
  rcases Bool.eq_false_or_eq_true (r_19.2) with b44 | b44
  replace h := ite_t b44 h
  exact T_regJ [zn, zn, zn, zn, (zd (.str r_7.1)), zn, (zd (B false)), zn, zn, zn, (zd (B false)), zn, zn, zn, (zd (B false)), zn, zn, (zd (B false)), zn, zg, zg, zg, (zd (B true)), zn, zg, zg, zg, (zd (B true)), zn, zg, zg, zg, zg, (zd (B true)), zn, zg, zg, zg, (zd (B true))] [] [75] [8, 6] [0, 1, 2] _ _ (by kernel_rfl) (z6 (zc (gd_ff b40) (z1 (zc (gd_ff b40) (zc (rfl : r_7.1.map elB = r_7.1.map elB) (zc (gd_ff b40) (z2 (zc b40 (z2 (zc (gd_ff b41) (z1 (zc (gd_ff b41) (z2 (zc b41 (z2 (zc (gd_ff b42) (z1 (zc (gd_ff b42) (z2 (zc b42 (z2 (zc (gd_ff b43) (z2 (zc b43 (z2 (zc (gd_tf b44) (zc (gd_tf b44) (zc (gd_tf b44) (z1 (zc b44 (z2 (zc (gd_tf (rfl : true = true)) (zc (gd_tf (rfl : true = true)) (zc (gd_tf (rfl : true = true)) (z1 (zc (rfl : true = true) (z2 (zc (gd_tf (rfl : true = true)) (zc (gd_tf (rfl : true = true)) (zc (gd_tf (rfl : true = true)) (zc (gd_tf (rfl : true = true)) (z1 (zc (rfl : true = true) (z2 (zc (gd_tf (rfl : true = true)) (zc (gd_tf (rfl : true = true)) (zc (gd_tf (rfl : true = true)) (z1 (zc (rfl : true = true) zt))))))))))))))))))))))))))))))))))))))))))))))))) (fun s hs => Exists.intro true (And.intro h hs))
  replace h := ite_f b44 h
  rcases Bool.eq_false_or_eq_true (r_17.1.k != 1) with b45 | b45
  replace h := ite_t b45 h
  exact T_regJ [zn, zn, zn, zn, (zd (.str r_7.1)), zn, (zd (B false)), zn, zn, zn, (zd (B false)), zn, zn, zn, (zd (B false)), zn, zn, (zd (B false)), zn, zn, zn, zn, (zd (B false)), zn, zg, zg, zg, (zd (B true)), zn, zg, zg, zg, zg, (zd (B true)), zn, zg, zg, zg, (zd (B true))] [] [75] [8, 6] [0, 1, 2] _ _ (by kernel_rfl) (z6 (zc (gd_ff b40) (z1 (zc (gd_ff b40) (zc (rfl : r_7.1.map elB = r_7.1.map elB) (zc (gd_ff b40) (z2 (zc b40 (z2 (zc (gd_ff b41) (z1 (zc (gd_ff b41) (z2 (zc b41 (z2 (zc (gd_ff b42) (z1 (zc (gd_ff b42) (z2 (zc b42 (z2 (zc (gd_ff b43) (z2 (zc b43 (z2 (zc (gd_ff b44) (z1 (zc (gd_ff b44) (z1 (zc (gd_ff b44) (z2 (zc b44 (z2 (zc (gd_tf b45) (zc (gd_tf b45) (zc (gd_tf b45) (z1 (zc b45 (z2 (zc (gd_tf (rfl : true = true)) (zc (gd_tf (rfl : true = true)) (zc (gd_tf (rfl : true = true)) (zc (gd_tf (rfl : true = true)) (z1 (zc (rfl : true = true) (z2 (zc (gd_tf (rfl : true = true)) (zc (gd_tf (rfl : true = true)) (zc (gd_tf (rfl : true = true)) (z1 (zc (rfl : true = true) zt))))))))))))))))))))))))))))))))))))))))))))))))))) (fun s hs => Exists.intro true (And.intro h hs))
  replace h := ite_f b45 h
  rcases Bool.eq_false_or_eq_true (r_17.1.n != 1) with b46 | b46
  replace h := ite_t b46 h
  exact T_regJ [zn, zn, zn, zn, (zd (.str r_7.1)), zn, (zd (B false)), zn, zn, zn, (zd (B false)), zn, zn, zn, (zd (B false)), zn, zn, (zd (B false)), zn, zn, zn, zn, (zd (B false)), zn, zn, zn, zn, (zd (B false)), zn, zg, zg, zg, zg, (zd (B true)), zn, zg, zg, zg, (zd (B true))] [] [75] [8, 6] [0, 1, 2] _ _ (by kernel_rfl) (z6 (zc (gd_ff b40) (z1 (zc (gd_ff b40) (zc (rfl : r_7.1.map elB = r_7.1.map elB) (zc (gd_ff b40) (z2 (zc b40 (z2 (zc (gd_ff b41) (z1 (zc (gd_ff b41) (z2 (zc b41 (z2 (zc (gd_ff b42) (z1 (zc (gd_ff b42) (z2 (zc b42 (z2 (zc (gd_ff b43) (z2 (zc b43 (z2 (zc (gd_ff b44) (z1 (zc (gd_ff b44) (z1 (zc (gd_ff b44) (z2 (zc b44 (z2 (zc (gd_ff b45) (z1 (zc (gd_ff b45) (z1 (zc (gd_ff b45) (z2 (zc b45 (z2 (zc (gd_tf b46) (zc (gd_tf b46) (zc (gd_tf b46) (zc (gd_tf b46) (z1 (zc b46 (z2 (zc (gd_tf (rfl : true = true)) (zc (gd_tf (rfl : true = true)) (zc (gd_tf (rfl : true = true)) (z1 (zc (rfl : true = true) zt))))))))))))))))))))))))))))))))))))))))))))))))))))) (fun s hs => Exists.intro true (And.intro h hs))
  replace h := ite_f b46 h
  obtain ⟨r_47, e48, h⟩ := bd_inv h
  rcases Bool.eq_false_or_eq_true (!(r_47)) with b49 | b49
  replace h := ite_t b49 h
  exact T_regJ (hl 39 [(4, (zd (.str r_7.1))), (6, (zd (B false))), (10, (zd (B false))), (14, (zd (B false))), (17, (zd (B false))), (22, (zd (B false))), (27, (zd (B false))), (31, (zd (B (r_47)))), (33, (zd (B false))), (35, zg), (36, zg), (37, zg), (38, (zd (B true)))]) [] [75] [8, 6] [0, 1, 2] _ _ (by kernel_rfl) (z6 (zc (gd_ff b40) (z1 (zc (gd_ff b40) (zc (rfl : r_7.1.map elB = r_7.1.map elB) (zc (gd_ff b40) (z2 (zc b40 (z2 (zc (gd_ff b41) (z1 (zc (gd_ff b41) (z2 (zc b41 (z2 (zc (gd_ff b42) (z1 (zc (gd_ff b42) (z2 (zc b42 (z2 (zc (gd_ff b43) (z2 (zc b43 (z2 (zc (gd_ff b44) (z1 (zc (gd_ff b44) (z1 (zc (gd_ff b44) (z2 (zc b44 (z2 (zc (gd_ff b45) (z1 (zc (gd_ff b45) (z1 (zc (gd_ff b45) (z2 (zc b45 (z2 (zc (gd_ff b46) (z1 (zc (gd_ff b46) (z1 (zc (gd_ff b46) (zc (g_codec_Same_ret e48) (zc (gd_ff b46) (z2 (zc b46 (z2 (zc (gd_tf b49) (zc (gd_tf b49) (zc (gd_tf b49) (z1 (zc b49 zt)))))))))))))))))))))))))))))))))))))))))))))))))))))))) (fun s hs => Exists.intro true (And.intro h hs))
  replace h := ite_f b49 h
  obtain ⟨r_50, e51, h⟩ := bd_inv h
  exact T_regJ (hl 39 [(4, (zd (.str r_7.1))), (6, (zd (B false))), (10, (zd (B false))), (14, (zd (B false))), (17, (zd (B false))), (22, (zd (B false))), (27, (zd (B false))), (31, (zd (B (r_47)))), (33, (zd (B false))), (37, (zd (B (r_50)))), (38, (zd (B false)))]) [] [75] [8, 6] [0, 1, 2] _ _ (by kernel_rfl) (z6 (zc (gd_ff b40) (z1 (zc (gd_ff b40) (zc (rfl : r_7.1.map elB = r_7.1.map elB) (zc (gd_ff b40) (z2 (zc b40 (z2 (zc (gd_ff b41) (z1 (zc (gd_ff b41) (z2 (zc b41 (z2 (zc (gd_ff b42) (z1 (zc (gd_ff b42) (z2 (zc b42 (z2 (zc (gd_ff b43) (z2 (zc b43 (z2 (zc (gd_ff b44) (z1 (zc (gd_ff b44) (z1 (zc (gd_ff b44) (z2 (zc b44 (z2 (zc (gd_ff b45) (z1 (zc (gd_ff b45) (z1 (zc (gd_ff b45) (z2 (zc b45 (z2 (zc (gd_ff b46) (z1 (zc (gd_ff b46) (z1 (zc (gd_ff b46) (zc (g_codec_Same_ret e48) (zc (gd_ff b46) (z2 (zc b46 (z2 (zc (gd_ff b49) (z1 (zc (gd_ff b49) (z1 (zc (gd_ff b49) (zc (g_codec_Same_ret e51) (z1 (zc b49 zt))))))))))))))))))))))))))))))))))))))))))))))))))))))))))) (fun s hs => Exists.intro (r_50) (And.intro h hs))
  obtain ⟨rfl, rfl, hlk⟩ := CoR_pan hR
  replace h := hz16 rfl
  obtain rfl := some_inv h
  exact (show _ ∧ _ from ⟨rfl, ⟨_, rfl, lk3 ((after_lk (by kernel_rfl) rfl).trans (by rw [hlk 0 (by decide)]; kernel_rfl)) ((after_lk (by kernel_rfl) rfl).trans (by rw [hlk 1 (by decide)]; kernel_rfl)) ((after_lk (by kernel_rfl) rfl).trans (by rw [hlk 2 (by decide)]; kernel_rfl))⟩⟩)
  obtain ⟨rfl, rfl, hlk⟩ := CoR_pan hR
  replace h := hz11 rfl
  obtain rfl := some_inv h
  exact (show _ ∧ _ from ⟨rfl, ⟨_, rfl, lk3 ((after_lk (by kernel_rfl) rfl).trans (by rw [hlk 0 (by decide)]; kernel_rfl)) ((after_lk (by kernel_rfl) rfl).trans (by rw [hlk 1 (by decide)]; kernel_rfl)) ((after_lk (by kernel_rfl) rfl).trans (by rw [hlk 2 (by decide)]; kernel_rfl))⟩⟩)

theorem g_law02_CodecEncodeSpec_ret {v_1 : Val} {r : (Bool) ⊕ Unit} (h : g_law02_CodecEncodeSpec v_1 = some r) : CT Tryd.prog 3 3 [(.agg (qVal v_1))] [(0, (.obj (tabP Tryd.prog))), (1, (.obj (errP 1))), (2, (.obj (errP 2)))] (CoR 3 ghosts (fun x => ((db (x)), [(0, (.obj (tabP Tryd.prog))), (1, (.obj (errP 1))), (2, (.obj (errP 2)))])) (.iface 29 (.int .i64 20)) r) := by
  refine CT.of_T Tryd.func3 (by kernel_rfl) rfl ?_
  refine T_turn [] [0] [] (mk 40 [(0, (.agg (qVal v_1)))] [(0, (.obj (tabP Tryd.prog))), (1, (.obj (errP 1))), (2, (.obj (errP 2)))]) (by kernel_rfl) ?_
  refine T_reg [] [1] [] (mk 40 [(1, (rf 4 0))] [(4, (.var (qVal v_1))), (0, (.obj (tabP Tryd.prog))), (1, (.obj (errP 1))), (2, (.obj (errP 2)))]) _ (by kernel_rfl) (z4 zt) ?_
  refine T_seq ?_
  refine T_seq (T_parts ?_)
  obtain ⟨y3, e4, hk5, hz6⟩ := bdP_inv h
  refine TL_ct 10 [0, 1, 2] 100003 _ _ [] (g_law02_sane_ret e4) rfl rfl (by kernel_rfl) (by kernel_rfl) (by kernel_rfl) (by kernel_rfl) (fun l bx' hR => ?_) (fun d bx' hR => ?_)
  obtain ⟨r_2, rfl, rfl, rfl⟩ := CoR_ret hR
  replace h := hk5 _ rfl
  refine TL_turn [] [1, 7] [] (mk 40 [(1, (rf 4 0)), (7, (db (r_2)))] [(4, (.var (qVal v_1))), (0, (.obj (tabP Tryd.prog))), (1, (.obj (errP 1))), (2, (.obj (errP 2)))]) (by kernel_rfl) ?_
  refine TL_part 1 [] (mk 40 [(1, (rf 4 0)), (7, (db (r_2))), (8, (db (!(r_2))))] [(4, (.var (qVal v_1))), (0, (.obj (tabP Tryd.prog))), (1, (.obj (errP 1))), (2, (.obj (errP 2)))]) _ (by kernel_rfl) (z2 zt) rfl ?_
  refine TL_nilQ ?_
  refine T_turn [] [1, 8] [] (mk 40 [(1, (rf 4 0)), (8, (db (!(r_2))))] [(4, (.var (qVal v_1))), (0, (.obj (tabP Tryd.prog))), (1, (.obj (errP 1))), (2, (.obj (errP 2)))]) (by kernel_rfl) ?_
  refine T_cond (!(r_2)) (by kernel_rfl) (fun b7 => ?_) (fun b7 => ?_)
  replace h := ite_t b7 h
  refine T_reg [] [2] [4] (mk 40 [(2, (db false))] [(0, (.obj (tabP Tryd.prog))), (1, (.obj (errP 1))), (2, (.obj (errP 2)))]) _ (by kernel_rfl) (z2 zt) ?_
  refine T_arr [] [2] [] [0, 1, 2] (mk 40 [(2, (db false))] [(0, (.obj (tabP Tryd.prog))), (1, (.obj (errP 1))), (2, (.obj (errP 2)))]) (by kernel_rfl) ?_
  refine T_ret ?_
  obtain rfl := some_inv h
  exact ⟨[(db false)], by kernel_rfl, rfl⟩
  replace h := ite_f b7 h
  refine T_skip ?_
  refine T_seq ?_
  refine T_seq (T_parts ?_)
  refine TL_part 1 [] (mk 40 [(1, (rf 4 0)), (8, (db (!(r_2)))), (9, (.agg (qVal v_1)))] [(4, (.var (qVal v_1))), (0, (.obj (tabP Tryd.prog))), (1, (.obj (errP 1))), (2, (.obj (errP 2)))]) _ (by kernel_rfl) (z2 zt) rfl ?_
  refine TL_part 1 [] (mk 40 [(1, (rf 4 0)), (8, (db (!(r_2)))), (9, (.agg (qVal v_1))), (10, (ow 13))] [(13, (.row 25 5 [ndcVal v_1])), (4, (.var (qVal v_1))), (0, (.obj (tabP Tryd.prog))), (1, (.obj (errP 1))), (2, (.obj (errP 2)))]) _ (by kernel_rfl) (z1 (zc (show dfill (fun i => some (i * 5, 5)) (List.replicate (1 * 5) .junk) [(0, [(.dat (I v_1.k)), (.dat (I v_1.n)), (.dat (.str v_1.s)), (.dat (.sl 5 (v_1.l.map encVal))), (.dat (.sl 1 (v_1.ks.map elStr)))])] = some ((flat [ndcVal v_1]).map .dat) from rfl) zt)) rfl ?_
  refine TL_turn [] [1, 8, 9, 10] [] (mk 40 [(1, (rf 4 0)), (8, (db (!(r_2)))), (9, (.agg (qVal v_1))), (10, (ow 13))] [(13, (.row 25 5 ([v_1].map encVal))), (4, (.var (qVal v_1))), (0, (.obj (tabP Tryd.prog))), (1, (.obj (errP 1))), (2, (.obj (errP 2)))]) (by rw [show [v_1].map encVal = [ndcVal v_1] from by simp only [List.map_cons, List.map_nil, encVal_nd]]; kernel_rfl) ?_
  obtain ⟨r_8, e9, h⟩ := bd_inv h
  refine TL_part 2 [(zd (B (r_8)))] (mk 40 [(1, (rf 4 0)), (8, (db (!(r_2)))), (9, (.agg (qVal v_1))), (10, (ow 13)), (11, (db (r_8))), (12, (db (!(r_8))))] [(13, (.row 25 5 ([v_1].map encVal))), (4, (.var (qVal v_1))), (0, (.obj (tabP Tryd.prog))), (1, (.obj (errP 1))), (2, (.obj (errP 2)))]) _ (by kernel_rfl) (z1 (zc (g_law02_few_ret e9) (z2 zt))) rfl ?_
  refine TL_nilQ ?_
  refine T_turn [] [1, 12] [13] (mk 40 [(1, (rf 4 0)), (12, (db (!(r_8))))] [(4, (.var (qVal v_1))), (0, (.obj (tabP Tryd.prog))), (1, (.obj (errP 1))), (2, (.obj (errP 2)))]) (by kernel_rfl) ?_
  refine T_cond (!(r_8)) (by kernel_rfl) (fun b10 => ?_) (fun b10 => ?_)
  replace h := ite_t b10 h
  refine T_reg [] [2] [4] (mk 40 [(2, (db true))] [(0, (.obj (tabP Tryd.prog))), (1, (.obj (errP 1))), (2, (.obj (errP 2)))]) _ (by kernel_rfl) (z2 zt) ?_
  refine T_arr [] [2] [] [0, 1, 2] (mk 40 [(2, (db true))] [(0, (.obj (tabP Tryd.prog))), (1, (.obj (errP 1))), (2, (.obj (errP 2)))]) (by kernel_rfl) ?_
  refine T_ret ?_
  obtain rfl := some_inv h
  exact ⟨[(db true)], by kernel_rfl, rfl⟩
  replace h := ite_f b10 h
  refine T_skip ?_
  refine T_seq (T_parts ?_)
  refine TL_part 1 [] (mk 40 [(1, (rf 4 0)), (12, (db (!(r_8)))), (14, (.agg (qVal v_1)))] [(4, (.var (qVal v_1))), (0, (.obj (tabP Tryd.prog))), (1, (.obj (errP 1))), (2, (.obj (errP 2)))]) _ (by kernel_rfl) (z2 zt) rfl ?_
  obtain ⟨y12, e13, hk14, hz15⟩ := bdP_inv h
  refine TL_ct 12 [0, 1, 2] 100003 _ _ [] (g_codec_Encode_ret e13) rfl rfl (by kernel_rfl) (by kernel_rfl) (by kernel_rfl) (by kernel_rfl) (fun l bx' hR => ?_) (fun d bx' hR => ?_)
  obtain ⟨r_11, rfl, rfl, rfl⟩ := CoR_ret hR
  replace h := hk14 _ rfl
  refine TL_turn [] [1, 15] [] (mk 40 [(1, (rf 4 0)), (15, (.tup [(false, [(.dat (.sl 1 (r_11.1.map elB)))]), (false, [(.dat (I r_11.2))])]))] [(4, (.var (qVal v_1))), (0, (.obj (tabP Tryd.prog))), (1, (.obj (errP 1))), (2, (.obj (errP 2)))]) (by kernel_rfl) ?_
  refine TL_part 5 [] (mk 40 [(1, (rf 4 0)), (3, (dt (.sl 1 (r_11.1.map elB)))), (4, (di r_11.2)), (13, (.tup [(false, [(.dat (.sl 1 (r_11.1.map elB)))]), (false, [(.dat (I r_11.2))])])), (15, (.tup [(false, [(.dat (.sl 1 (r_11.1.map elB)))]), (false, [(.dat (I r_11.2))])])), (16, (dt (.sl 1 (r_11.1.map elB)))), (17, (di r_11.2))] [(4, (.var (qVal v_1))), (0, (.obj (tabP Tryd.prog))), (1, (.obj (errP 1))), (2, (.obj (errP 2)))]) _ (by kernel_rfl) (z8 (z2 zt)) rfl ?_
  refine TL_nilQ ?_
  refine T_turn [] [1, 3, 4] [] (mk 40 [(1, (rf 4 0)), (3, (dt (.sl 1 (r_11.1.map elB)))), (4, (di r_11.2))] [(4, (.var (qVal v_1))), (0, (.obj (tabP Tryd.prog))), (1, (.obj (errP 1))), (2, (.obj (errP 2)))]) (by kernel_rfl) ?_
  obtain ⟨r_16, e17, h⟩ := bd_inv h
  refine T_reg [zn, (zd (.tup [(.sl 1 (r_16.1.map elB)), (I r_16.2)]))] [1, 3, 4, 5, 6] [] (mk 40 [(1, (rf 4 0)), (3, (dt (.sl 1 (r_11.1.map elB)))), (4, (di r_11.2)), (5, (dt (.sl 1 (r_16.1.map elB)))), (6, (di r_16.2))] [(4, (.var (qVal v_1))), (0, (.obj (tabP Tryd.prog))), (1, (.obj (errP 1))), (2, (.obj (errP 2)))]) _ (by kernel_rfl) (z3 (zc (g_ref02_Encode_ret e17) (z8 (z2 zt)))) ?_
  rcases Bool.eq_false_or_eq_true (r_11.1 == r_16.1) with b18 | b18
  replace h := ite_t b18 h
  rcases Bool.eq_false_or_eq_true (r_11.2 == r_16.2) with b19 | b19
  replace h := ite_t b19 h
  obtain ⟨r_20, e21, h⟩ := bd_inv h
  obtain ⟨r_22, e23, h⟩ := bd_inv h
  refine T_regD 18 (hl 17 [(1, (zd (.str r_11.1))), (3, (zd (.str r_16.1))), (9, (zd (B true))), (12, (zd (I r_20))), (14, (zd (I r_22))), (16, (zd (B true)))]) [2] [4] (mk 40 [(2, (db (r_20 == r_22)))] [(0, (.obj (tabP Tryd.prog))), (1, (.obj (errP 1))), (2, (.obj (errP 2)))]) _ (by kernel_rfl) (by kernel_rfl) (by kernel_rfl) (zc (z3 (zc (rfl : r_11.1.map elB = r_11.1.map elB) (z3 (zc (rfl : r_16.1.map elB = r_16.1.map elB) (z4 (zc (gd_tt b18) (z1 (zc (gd_tt b18) (z1 (zc (gd_tt b18) (z2 (zc b18 (z2 (zc (gd_tt b19) (z1 (zc (gd_tt b19) (zc (g_codec_Check_ret e21) (zc (gd_tt b19) (z1 (zc (gd_tt b19) (zc (g_ref02_Check_ret e23) (zc (gd_tt b19) (z2 (zc b19 (z2 zt))))))))))))))))))))))))) zt) ?_
  refine T_arr [] [2] [] [0, 1, 2] (mk 40 [(2, (db (r_20 == r_22)))] [(0, (.obj (tabP Tryd.prog))), (1, (.obj (errP 1))), (2, (.obj (errP 2)))]) (by kernel_rfl) ?_
  refine T_ret ?_
  obtain rfl := some_inv h
  exact ⟨[(db (r_20 == r_22))], by kernel_rfl, rfl⟩
  replace h := ite_f b19 h
  refine T_regD 18 [zn, (zd (.str r_11.1)), zn, (zd (.str r_16.1)), zn, zn, zn, zn, zn, (zd (B true)), zn, zg, zg, zg, zg, zg, (zd (B false))] [2] [4] (mk 40 [(2, (db false))] [(0, (.obj (tabP Tryd.prog))), (1, (.obj (errP 1))), (2, (.obj (errP 2)))]) _ (by kernel_rfl) (by kernel_rfl) (by kernel_rfl) (zc (z3 (zc (rfl : r_11.1.map elB = r_11.1.map elB) (z3 (zc (rfl : r_16.1.map elB = r_16.1.map elB) (z4 (zc (gd_tt b18) (z1 (zc (gd_tt b18) (z1 (zc (gd_tt b18) (z2 (zc b18 (z2 (zc (gd_ft b19) (zc (gd_ft b19) (zc (gd_ft b19) (zc (gd_ft b19) (zc (gd_ft b19) (z1 (zc b19 (z2 zt))))))))))))))))))))) zt) ?_
  refine T_arr [] [2] [] [0, 1, 2] (mk 40 [(2, (db false))] [(0, (.obj (tabP Tryd.prog))), (1, (.obj (errP 1))), (2, (.obj (errP 2)))]) (by kernel_rfl) ?_
  refine T_ret ?_
  obtain rfl := some_inv h
  exact ⟨[(db false)], by kernel_rfl, rfl⟩
  replace h := ite_f b18 h
  refine T_regD 18 [zn, (zd (.str r_11.1)), zn, (zd (.str r_16.1)), zn, zn, zg, zg, zg, (zd (B false)), zn, zg, zg, zg, zg, zg, (zd (B false))] [2] [4] (mk 40 [(2, (db false))] [(0, (.obj (tabP Tryd.prog))), (1, (.obj (errP 1))), (2, (.obj (errP 2)))]) _ (by kernel_rfl) (by kernel_rfl) (by kernel_rfl) (zc (z3 (zc (rfl : r_11.1.map elB = r_11.1.map elB) (z3 (zc (rfl : r_16.1.map elB = r_16.1.map elB) (z4 (zc (gd_ft b18) (zc (gd_ft b18) (zc (gd_ft b18) (z1 (zc b18 (z2 (zc (gd_ft (rfl : false = false)) (zc (gd_ft (rfl : false = false)) (zc (gd_ft (rfl : false = false)) (zc (gd_ft (rfl : false = false)) (zc (gd_ft (rfl : false = false)) (z1 (zc (rfl : false = false) (z2 zt))))))))))))))))))) zt) ?_
  refine T_arr [] [2] [] [0, 1, 2] (mk 40 [(2, (db false))] [(0, (.obj (tabP Tryd.prog))), (1, (.obj (errP 1))), (2, (.obj (errP 2)))]) (by kernel_rfl) ?_
  refine T_ret ?_
  obtain rfl := some_inv h
  exact ⟨[(db false)], by kernel_rfl, rfl⟩
  obtain ⟨rfl, rfl, hlk⟩ := CoR_pan hR
  replace h := hz15 rfl
  obtain rfl := some_inv h
  exact (show _ ∧ _ from ⟨rfl, ⟨_, rfl, lk3 ((after_lk (by kernel_rfl) rfl).trans (by rw [hlk 0 (by decide)]; kernel_rfl)) ((after_lk (by kernel_rfl) rfl).trans (by rw [hlk 1 (by decide)]; kernel_rfl)) ((after_lk (by kernel_rfl) rfl).trans (by rw [hlk 2 (by decide)]; kernel_rfl))⟩⟩)
  obtain ⟨rfl, rfl, hlk⟩ := CoR_pan hR
  replace h := hz6 rfl
  obtain rfl := some_inv h
  exact (show _ ∧ _ from ⟨rfl, ⟨_, rfl, lk3 ((after_lk (by kernel_rfl) rfl).trans (by rw [hlk 0 (by decide)]; kernel_rfl)) ((after_lk (by kernel_rfl) rfl).trans (by rw [hlk 1 (by decide)]; kernel_rfl)) ((after_lk (by kernel_rfl) rfl).trans (by rw [hlk 2 (by decide)]; kernel_rfl))⟩⟩)

end Go.Proofs.YtimalbkjflfdoaaDoor

/-
  The data-level framework, third series, part c: the sorted keys of a set of the call's own. Generic in the program; no condition.
-/
set_option linter.unusedVariables false
set_option linter.unusedSimpArgs false
namespace Go.DL
open Go.RowKit Go.Maps
section
variable {P : Program} {w : World} {A : Nat → Prop} {M : BMap} {base : Nat} {Q : DX → DS → Prop} {s : DS}
end
end Go.DL

/-
  The data-level framework, third series, part d: rows of rows: a row of the call's own whose last element is a row of the call's own. Generic in the program; no condition.
-/
set_option linter.unusedVariables false
set_option linter.unusedSimpArgs false
namespace Go.DL
open Go.RowKit
section
variable {P : Program} {w : World} {A : Nat → Prop} {M : BMap} {base : Nat} {Q : DX → DS → Prop} {s : DS}

end
end Go.DL

/-
  The data-level framework, third series, part e: partial functions have values with a property: one rule for each shape of step, and a tactic that applies them. Generic; no condition.
-/
set_option linter.unusedVariables false
set_option linter.unusedSimpArgs false
namespace Go.DL
def WP {α : Type} (o : Option α) (Q : α → Prop) : Prop := ∃ x, o = some x ∧ Q x
section
variable {α β ρ σ : Type} {Q : ρ → Prop}
theorem WP.eq {o : Option ρ} {r : ρ} (h : WP o fun x => x = r) : o = some r := by obtain ⟨x, h1, rfl⟩ := h; exact h1
theorem WP.of {o : Option ρ} {r : ρ} (h : o = some r) (hq : Q r) : WP o Q := ⟨r, h, hq⟩
theorem WP.mono {o : Option ρ} {Q' : ρ → Prop} (h : WP o Q') (hq : ∀ x, Q' x → Q x) : WP o Q := by obtain ⟨x, h1, h2⟩ := h; exact ⟨x, h1, hq x h2⟩
theorem WP.ret {x : ρ} (h : Q x) : WP (some x) Q := ⟨x, rfl, h⟩
theorem WP.iteD {p : Prop} [d : Decidable p] [i : Decidable (decide p = true)] {a b : Option ρ} (h1 : p → WP a Q) (h2 : ¬ p → WP b Q) : WP (@ite _ (decide p = true) i a b) Q := by
  by_cases h : p
  · rw [if_pos (decide_eq_true h)]; exact h1 h
  · rw [if_neg (by simp [h])]; exact h2 h
theorem WP.iteE [DecidableEq α] {x y : α} [i : Decidable ((x == y) = true)] {a b : Option ρ} (h1 : x = y → WP a Q) (h2 : ¬ x = y → WP b Q) : WP (@ite _ ((x == y) = true) i a b) Q := by
  by_cases h : x = y
  · rw [if_pos (beq_iff_eq.2 h)]; exact h1 h
  · rw [if_neg (by simp [h])]; exact h2 h
theorem WP.iteN [DecidableEq α] {x y : α} [i : Decidable ((x != y) = true)] {a b : Option ρ} (h1 : ¬ x = y → WP a Q) (h2 : x = y → WP b Q) : WP (@ite _ ((x != y) = true) i a b) Q := by
  by_cases h : x = y
  · rw [if_neg (by simp [h])]; exact h2 h
  · rw [if_pos (bne_iff_ne.2 h)]; exact h1 h
theorem WP.iteT [i : Decidable (true = true)] {a b : Option ρ} (h : WP a Q) : WP (@ite _ (true = true) i a b) Q := by rw [if_pos rfl]; exact h
theorem WP.iteF [i : Decidable (false = true)] {a b : Option ρ} (h : WP b Q) : WP (@ite _ (false = true) i a b) Q := by rw [if_neg (by simp)]; exact h
theorem WP.iteNb {c : Bool} [i : Decidable ((!c) = true)] {a b : Option ρ} (h : WP (if c = true then b else a) Q) : WP (@ite _ ((!c) = true) i a b) Q := by
  cases c
  · rw [if_pos (show (!false) = true from rfl)]; rwa [if_neg (by simp)] at h
  · rw [if_neg (show ¬ (!true) = true by simp)]; rwa [if_pos rfl] at h
theorem WP.iteB {c : Bool} [i : Decidable (c = true)] {a b : Option ρ} (h1 : c = true → WP a Q) (h2 : c = false → WP b Q) : WP (@ite _ (c = true) i a b) Q := by
  cases c
  · rw [if_neg (by simp)]; exact h2 rfl
  · rw [if_pos rfl]; exact h1 rfl
theorem WP.ckI {n : Int} {o : Option ρ} (hn : -9223372036854775808 ≤ n ∧ n ≤ 9223372036854775807) (h : WP o Q) : WP (Go.DL.ckI n o) Q := by rw [ckI_pos hn.1 hn.2]; exact h
theorem WP.ck {p : Prop} [Decidable p] {o : Option ρ} (hp : p) (h : WP o Q) : WP (Go.DL.ck p o) Q := by rw [ck_pos hp]; exact h
theorem WP.gn {l : List α} {n : Nat} {k : α → Option ρ} (hn : n < l.length) (h : ∀ x, l[n]? = some x → WP (k x) Q) : WP (Go.DL.gn l n k) Q := by
  have hx : l[n]? = some l[n] := List.getElem?_eq_getElem hn
  rw [gn_some hx]; exact h _ hx
theorem WP.gt {l : List α} {i : Int} {k : α → Option ρ} (hn : 0 ≤ i ∧ i < (l.length : Int)) (h : ∀ x, l[i.toNat]? = some x → WP (k x) Q) : WP (Go.DL.gt l i k) Q := by
  have hx : l[i.toNat]? = some (l[i.toNat]'(by omega)) := List.getElem?_eq_getElem (by omega)
  rw [gt_some hx hn.1]; exact h _ hx
theorem WP.bd {o : Option α} {k : α → Option ρ} {r : α} (ho : o = some r) (h : WP (k r) Q) : WP (Go.DL.bd o k) Q := by rw [ho]; exact h
theorem WP.bdW {o : Option α} {k : α → Option ρ} (h : WP o fun x => WP (k x) Q) : WP (Go.DL.bd o k) Q := by obtain ⟨x, h1, h2⟩ := h; rw [h1]; exact h2
theorem WP.up {o : Option ρ} {Q : σ ⊕ ρ → Prop} (h : WP o fun r => Q (.inr r)) : WP (Go.DL.up o) Q := by obtain ⟨x, h1, h2⟩ := h; exact ⟨.inr x, by rw [h1]; rfl, h2⟩
theorem WP.sb {l : List α} {lo hi : Option Int} {k : List α → Option ρ} (h0 : 0 ≤ lo.getD 0 ∧ lo.getD 0 ≤ hi.getD l.length ∧ hi.getD l.length ≤ (l.length : Int)) (h : WP (k (subList l lo hi)) Q) : WP (Go.DL.sb l lo hi k) Q := by
  unfold Go.DL.sb; rw [if_pos h0]; exact h
/-- What one round of a loop leaves: another round's state, which is nearer the end, or the result. -/
def Rnd (I : σ → Prop) (μ : σ → Nat) (n : Nat) (Q : ρ → Prop) : σ ⊕ ρ → Prop
  | .inl y => I y ∧ μ y < n
  | .inr r => Q r
theorem WP.loop {step : σ → Option (σ ⊕ ρ)} {x : σ} (I : σ → Prop) (μ : σ → Nat) (h : ∀ x, I x → WP (step x) (Rnd I μ (μ x) Q)) (h0 : I x) : WP (loopO step x) Q := by
  have key : ∀ n x, μ x = n → I x → WP (loopO step x) Q := by
    intro n
    induction n using Nat.strongRecOn with
    | _ n ih =>
      intro x hn hx
      obtain ⟨z, h1, h2⟩ := h x hx
      match z, h1, h2 with
      | .inr r, h1, h2 => exact ⟨r, loopO_inr h1, h2⟩
      | .inl y, h1, h2 => rw [loopO_inl h1]; have := h2.2; exact ih (μ y) (by omega) y rfl h2.1
  exact key _ x rfl h0
end
end Go.DL

/-
  The pure functions of chapter 2 in plain Lean: formed, Check, Depth and their references. Conditions: those of each theorem.
-/
set_option linter.unusedVariables false
set_option linter.unusedSimpArgs false
namespace Go.Proofs.YtimalbkjflfdoaaDoor
open Go.DL
theorem incr_iff : ∀ (l : List (List UInt8)), incr l = true ↔ ∀ (i : Nat) (x y : List UInt8), l[i]? = some x → l[i + 1]? = some y → Op.bytesLess x y = true
  | [] => by simp [incr]
  | [a] => by
    simp only [incr, true_iff]
    intro i x y h1 h2
    simp at h2
  | a :: b :: r => by
    simp only [incr, Bool.and_eq_true, incr_iff (b :: r)]
    constructor
    · rintro ⟨h1, h2⟩ i x y hx hy
      cases i with
      | zero => simp at hx hy; subst hx; subst hy; exact h1
      | succ i => exact h2 i x y (by simpa using hx) (by simpa using hy)
    · intro h
      exact ⟨h 0 a b rfl rfl, fun i x y hx hy => h (i + 1) x y (by simpa using hx) (by simpa using hy)⟩
def emptyB (v : Val) : Bool := if v.k = 1 then v.s.isEmpty && v.l.isEmpty && v.ks.isEmpty else if v.k = 2 then v.n == 0 && v.l.isEmpty && v.ks.isEmpty else if v.k = 3 then v.n == 0 && v.s.isEmpty && v.ks.isEmpty else v.n == 0 && v.s.isEmpty && v.ks.length == v.l.length
theorem len0 {α : Type} (l : List α) : ((((l.length : Nat) : Int) == 0) = l.isEmpty) := by cases l <;> simp; omega
theorem empty_eq {v : Val} (h1 : 1 ≤ v.k) (h2 : v.k ≤ 4) : g_codec_empty v = some (emptyB v) := by
  unfold g_codec_empty emptyB
  have hl : (((v.ks.length : Nat) : Int) == ((v.l.length : Nat) : Int)) = (v.ks.length == v.l.length) := by
    rw [Bool.eq_iff_iff, beq_iff_eq, beq_iff_eq]; omega
  simp only [len0, hl, List.isEmpty_iff, beq_iff_eq]
  have hk : v.k = 1 ∨ v.k = 2 ∨ v.k = 3 ∨ v.k = 4 := by omega
  have e1 : ∀ (l : List UInt8), (l == ([] : List UInt8)) = l.isEmpty := fun l => by cases l <;> rfl
  rcases hk with hk | hk | hk | hk <;> simp only [hk] <;> simp (config := { decide := true }) only [if_true, if_false, ck_pos] <;>
    by_cases a1 : v.s = [] <;> by_cases a2 : v.l = [] <;> by_cases a3 : v.n = 0 <;> simp [a1, a2, a3, ck]
def fmd (v : Val) : Int × Bool := if wf v = true then (((dep v : Nat) : Int), true) else (0, false)
theorem fmd_t {v : Val} (h : wf v = true) : fmd v = (((dep v : Nat) : Int), true) := if_pos h
theorem fmd_f {v : Val} (h : ¬ wf v = true) : fmd v = (0, false) := if_neg h
theorem wf_out {v : Val} (h : v.k < 1 ∨ 4 < v.k) : wf v = false := by
  cases v with
  | mk k n s l ks =>
    simp only [Val.k] at h
    have h1 : ¬ k = 1 := by omega
    have h2 : ¬ k = 2 := by omega
    have h3 : ¬ k = 3 := by omega
    have h4 : ¬ k = 4 := by omega
    simp [wf, h1, h2, h3, h4]
theorem wf_in {v : Val} (h1 : 1 ≤ v.k) (h2 : v.k ≤ 4) : wf v = (emptyB v && (if v.k = 4 then incr v.ks else true) && (if v.k < 3 then true else wfL v.l)) := by
  cases v with
  | mk k n s l ks =>
    simp only [Val.k] at h1 h2 ⊢
    have hk : k = 1 ∨ k = 2 ∨ k = 3 ∨ k = 4 := by omega
    rcases hk with rfl | rfl | rfl | rfl <;> simp (config := { decide := true }) [wf, emptyB, Val.k, Val.n, Val.s, Val.l, Val.ks, Bool.and_assoc]
theorem wf_ks {v : Val} (h1 : 1 ≤ v.k) (h2 : v.k < 4) (he : emptyB v = true) : v.ks = [] := by
  cases v with
  | mk k n s l ks =>
    simp only [Val.k] at h1 h2
    have hk : k = 1 ∨ k = 2 ∨ k = 3 := by omega
    rcases hk with rfl | rfl | rfl <;> simp_all [emptyB, Val.k, Val.n, Val.s, Val.l, Val.ks]
theorem dep_list {v : Val} (h : 3 ≤ v.k) : dep v = depL v.l + 1 := by
  cases v with
  | mk k n s l ks =>
    simp only [Val.k] at h
    simp only [dep, Val.l]
    rw [if_neg (by omega)]
theorem dep_flat {v : Val} (h1 : 1 ≤ v.k) (h : v.k < 3) : dep v = 0 := by
  cases v with
  | mk k n s l ks =>
    simp only [Val.k] at h h1
    simp only [dep]
    rw [if_pos (by omega)]
theorem depL_take_succ {l : List Val} {i : Nat} {x : Val} (hx : l[i]? = some x) : depL (l.take (i + 1)) = max (depL (l.take i)) (dep x) := by
  rw [List.take_add_one, hx, depL_append]
  simp [depL]
theorem dep_hgt (v : Val) : dep v ≤ hgt v := by
  induction v using Val.ind with
  | h k n s l ks ih =>
    have : depL l ≤ hgtL l := depL_le.2 fun x hx => Nat.le_trans (ih x hx) (hgtL_le.1 (Nat.le_refl _) x hx)
    simp only [dep, hgt]
    split <;> omega
theorem formed_s {rc : Val → Option (Int × Bool)} {v : Val} (hrc : ∀ x ∈ v.l, rc x = some (fmd x)) (hd : ∀ x ∈ v.l, dep x ≤ 1000) (hl1 : v.l.length ≤ 140737488355328) (hl2 : v.ks.length ≤ 140737488355328) : WP (g_codec_formed_s rc v) fun r => r = fmd v := by
  unfold g_codec_formed_s
  by_cases h1 : v.k < 1
  · rw [if_pos (decide_eq_true h1)]
    exact WP.iteT (WP.ret (fmd_f (by rw [wf_out (.inl h1)]; simp)).symm)
  rw [if_neg (by simpa using h1)]
  by_cases h2 : v.k > 4
  · rw [if_pos (decide_eq_true h2)]
    exact WP.iteT (WP.ret (fmd_f (by rw [wf_out (.inr h2)]; simp)).symm)
  rw [if_neg (by simpa using h2)]
  have w0 := wf_in (v := v) (by omega) (by omega)
  refine WP.bd (empty_eq (by omega) (by omega)) ?_
  unfold g_codec_formed_s_j1
  refine WP.iteNb ?_
  refine WP.iteB (fun he => ?_) (fun he => WP.ret (fmd_f (by rw [w0, he]; simp)).symm)
  refine WP.loop (fun i => 1 ≤ i ∧ ∀ j x y, j + 1 < i → v.ks[j]? = some x → v.ks[j + 1]? = some y → Op.bytesLess x y = true) (fun i => v.ks.length - i) ?_ ⟨Nat.le_refl _, fun j x y h => by omega⟩
  intro i ⟨hi1, hi2⟩
  simp only [g_codec_formed_s_l5]
  refine WP.iteD (fun hi => ?_) (fun hi => ?_)
  · have hi' : i < v.ks.length := by omega
    refine WP.ckI (by omega) (WP.gt (by omega) fun x hx => WP.gn hi' fun y hy => ?_)
    have hx' : v.ks[i - 1]? = some x := by rw [← hx]; congr 1; omega
    have hy' : v.ks[i - 1 + 1]? = some y := by rw [← hy]; congr 1; omega
    refine WP.iteNb (WP.iteB (fun hl => WP.ckI (by omega) (WP.ret ⟨⟨by omega, fun j a b hj ha hb => ?_⟩, by show v.ks.length - (i + 1) < v.ks.length - i; omega⟩)) (fun hl => WP.up (WP.ret ?_)))
    · by_cases hji : j = i - 1
      · subst hji; rw [hx'] at ha; rw [hy'] at hb; cases ha; cases hb; exact hl
      · exact hi2 j a b (by omega) ha hb
    · refine (fmd_f ?_).symm
      have hk4 : v.k = 4 := by
        rcases Int.lt_or_le v.k 4 with h | h
        · rw [wf_ks (by omega) h he] at hi'; simp at hi'
        · omega
      rw [w0, hk4]
      have : ¬ incr v.ks = true := fun hn => by rw [(incr_iff _).1 hn _ x y hx' hy'] at hl; cases hl
      simp [this]
  · have hinc : incr v.ks = true := (incr_iff _).2 fun j x y hx hy => by
      have := (List.getElem?_eq_some_iff.1 hy).1
      exact hi2 j x y (by omega) hx hy
    refine WP.up ?_
    show WP (g_codec_formed_s_j2 v rc) fun r => r = fmd v
    unfold g_codec_formed_s_j2
    refine WP.iteD (fun h3 => WP.ret ?_) (fun h3 => ?_)
    · have : wf v = true := by rw [w0, he, hinc]; simp [h3]
      rw [fmd_t this, dep_flat (by omega) h3]; rfl
    · refine WP.loop (fun (p : Int × Nat) => p.2 ≤ v.l.length ∧ p.1 = ((depL (v.l.take p.2) : Nat) : Int) ∧ (∀ x ∈ v.l.take p.2, wf x = true)) (fun p => v.l.length - p.2) ?_ ⟨by simp, by simp [depL], by simp⟩
      rintro ⟨d, i⟩ ⟨g1, g2, g3⟩
      simp only at g1 g2 g3
      simp only [g_codec_formed_s_l4]
      refine WP.iteD (fun hi => ?_) (fun hi => ?_)
      · have hi' : i < v.l.length := by omega
        refine WP.gn hi' fun x hx => WP.bd (hrc x (List.mem_of_getElem? hx)) ?_
        refine WP.iteNb ?_
        by_cases hw : wf x = true
        · rw [fmd_t hw]
          refine WP.iteT (WP.ckI (by omega) (WP.ret ⟨⟨by simp only; omega, ?_, ?_⟩, by simp only; omega⟩))
          · simp only
            rw [depL_take_succ hx, g2]
            split <;> omega
          · simp only
            intro y hy
            rw [List.take_add_one, hx] at hy
            rcases List.mem_append.1 hy with hy | hy
            · exact g3 y hy
            · simp at hy; subst hy; exact hw
        · rw [fmd_f hw]
          refine WP.iteF (WP.up (WP.ret (fmd_f ?_).symm))
          rw [w0]
          have : ¬ wfL v.l = true := fun h => hw (wfL_iff.1 h x (List.mem_of_getElem? hx))
          simp [h3, this]
      · have e : i = v.l.length := by omega
        rw [e, List.take_length] at g2 g3
        refine WP.up ?_
        show WP (g_codec_formed_s_j3 d) fun r => r = fmd v
        have hdd : depL v.l ≤ 1000 := depL_le.2 hd
        refine WP.ckI (by omega) (WP.ret ?_)
        have hwl : wfL v.l = true := wfL_iff.2 g3
        have : wf v = true := by
          rw [w0, he, hinc, hwl]; simp
        rw [fmd_t this, dep_list (by omega), g2]
        simp
theorem formed_eq : ∀ (fu : Nat) (v : Val), hgt v ≤ fu → fu ≤ 1000 → rng v → g_codec_formed fu v = some (fmd v)
  | 0, .mk k n s l ks, h, _, _ => by simp [hgt] at h
  | fu + 1, .mk k n s l ks, h, hf, hr => by
    simp only [hgt, Nat.add_le_add_iff_right, hgtL_le] at h
    simp only [rng, rngL_iff] at hr
    exact WP.eq (formed_s (v := .mk k n s l ks) (fun x hx => formed_eq fu x (h x hx) (by omega) (hr.2.2.2.2.2.2 x hx)) (fun x hx => Nat.le_trans (dep_hgt x) (by have := h x hx; omega)) hr.2.2.2.1 hr.2.2.2.2.1)
/-- What Check says. -/
def chk (v : Val) : Int := if wf v = true then (if 16 < dep v then 2 else 0) else 1
theorem check_eq {v : Val} (h : hgt v ≤ 60) (hr : rng v) : g_codec_Check v = some (chk v) := by
  refine WP.eq ?_
  unfold g_codec_Check
  refine WP.bd (formed_eq 60 v h (by omega) hr) ?_
  unfold chk fmd
  by_cases hw : wf v = true
  · rw [if_pos hw, if_pos hw]
    refine WP.iteNb (WP.iteT ?_)
    refine WP.iteD (fun h => WP.ret ?_) (fun h => WP.ret ?_)
    · simp only at h; rw [if_pos (by omega)]
    · simp only at h; rw [if_neg (by omega)]
  · rw [if_neg hw, if_neg hw]
    exact WP.iteNb (WP.iteF (WP.ret rfl))
end Go.Proofs.YtimalbkjflfdoaaDoor

/-
  The reference's pure functions of chapter 2 in plain Lean: Formed, Depth, Check, count, few. Conditions: those of each theorem.
-/
set_option linter.unusedVariables false
set_option linter.unusedSimpArgs false
set_option maxRecDepth 100000
namespace Go.Proofs.YtimalbkjflfdoaaDoor
open Go.DL
theorem rincr_eq {l : List (List UInt8)} (hl : l.length ≤ 140737488355328) : g_ref02_increasing l = some (incr l) := by
  refine WP.eq ?_
  unfold g_ref02_increasing
  refine WP.loop (fun i => 1 ≤ i ∧ ∀ j x y, j + 1 < i → l[j]? = some x → l[j + 1]? = some y → Op.bytesLess x y = true) (fun i => l.length - i) ?_ ⟨Nat.le_refl _, fun j x y h => by omega⟩
  intro i ⟨hi1, hi2⟩
  simp only [g_ref02_increasing_l2]
  refine WP.iteD (fun hi => ?_) (fun hi => ?_)
  · have hi' : i < l.length := by omega
    refine WP.ckI (by omega) (WP.gt (by omega) fun x hx => WP.gn hi' fun y hy => ?_)
    have hx' : l[i - 1]? = some x := by rw [← hx]; congr 1; omega
    have hy' : l[i - 1 + 1]? = some y := by rw [← hy]; congr 1; omega
    refine WP.iteNb (WP.iteB (fun hh => WP.ckI (by omega) (WP.ret ⟨⟨by omega, fun j a b hj ha hb => ?_⟩, by show l.length - (i + 1) < l.length - i; omega⟩)) (fun hh => WP.up (WP.ret ?_)))
    · by_cases hji : j = i - 1
      · subst hji; rw [hx'] at ha; rw [hy'] at hb; cases ha; cases hb; exact hh
      · exact hi2 j a b (by omega) ha hb
    · have : ¬ incr l = true := fun hn => by rw [(incr_iff _).1 hn _ x y hx' hy'] at hh; cases hh
      show false = incr l
      simpa using this
  · refine WP.up (WP.ret ?_)
    exact ((incr_iff _).2 fun j x y hx hy => by
      have := (List.getElem?_eq_some_iff.1 hy).1
      exact hi2 j x y (by omega) hx hy).symm
theorem rFormed_loop {rc : Val → Option Bool} {v : Val} (hrc : ∀ x ∈ v.l, rc x = some (wf x)) (hl : v.l.length ≤ 140737488355328) : WP (g_ref02_Formed_s_j1 v rc) fun r => r = (wfL v.l && v.n == 0 && v.s.isEmpty) := by
  unfold g_ref02_Formed_s_j1
  refine WP.loop (fun i => i ≤ v.l.length ∧ ∀ x ∈ v.l.take i, wf x = true) (fun i => v.l.length - i) ?_ ⟨by omega, by simp⟩
  rintro i ⟨g1, g3⟩
  simp only [g_ref02_Formed_s_l3]
  refine WP.iteD (fun hi => ?_) (fun hi => ?_)
  · have hi' : i < v.l.length := by omega
    refine WP.gn hi' fun x hx => WP.bd (hrc x (List.mem_of_getElem? hx)) (WP.iteNb ?_)
    refine WP.iteB (fun hw => WP.ckI (by omega) (WP.ret ⟨⟨by omega, ?_⟩, by show v.l.length - (i + 1) < v.l.length - i; omega⟩)) (fun hw => WP.up (WP.ret ?_))
    · intro y hy
      rw [List.take_add_one, hx] at hy
      rcases List.mem_append.1 hy with hy | hy
      · exact g3 y hy
      · simp at hy; subst hy; exact hw
    · have : ¬ wfL v.l = true := fun h => by rw [wfL_iff.1 h x (List.mem_of_getElem? hx)] at hw; cases hw
      show false = _
      simp [this]
  · have e : i = v.l.length := by omega
    rw [e, List.take_length] at g3
    refine WP.up ?_
    show WP (g_ref02_Formed_s_j2 v) fun r => r = (wfL v.l && v.n == 0 && v.s.isEmpty)
    unfold g_ref02_Formed_s_j2
    have e1 : ∀ (l : List UInt8), (l == ([] : List UInt8)) = l.isEmpty := fun l => by cases l <;> rfl
    rw [wfL_iff.2 g3]
    refine WP.iteE (fun h => WP.ret ?_) (fun h => WP.ret ?_)
    · simp [h, e1]
    · simp [h]
theorem rFormed_s {rc : Val → Option Bool} {v : Val} (hrc : ∀ x ∈ v.l, rc x = some (wf x)) (hl1 : v.l.length ≤ 140737488355328) (hl2 : v.ks.length ≤ 140737488355328) : WP (g_ref02_Formed_s rc v) fun r => r = wf v := by
  have hloop := rFormed_loop hrc hl1
  unfold g_ref02_Formed_s
  have e1 : ∀ (l : List UInt8), (l == ([] : List UInt8)) = l.isEmpty := fun l => by cases l <;> rfl
  cases v with
  | mk k n s l ks =>
    simp only [Val.k, Val.n, Val.s, Val.l, Val.ks] at *
    refine WP.iteE (fun h => ?_) (fun h1 => WP.iteE (fun h => ?_) (fun h2 => WP.iteE (fun h => ?_) (fun h3 => WP.iteE (fun h => ?_) (fun h4 => ?_))))
    · subst h
      simp only [len0, e1]
      refine WP.iteB (fun a => WP.iteB (fun b => WP.ret ?_) (fun b => WP.ret ?_)) (fun a => WP.ret ?_) <;> simp (config := { decide := true }) [wf, a] <;> simp_all
    · subst h
      simp only [len0]
      refine WP.iteE (fun a => WP.iteB (fun b => WP.ret ?_) (fun b => WP.ret ?_)) (fun a => WP.ret ?_) <;> simp (config := { decide := true }) [wf, a] <;> simp_all
    · subst h
      refine WP.iteD (fun a => WP.ret ?_) (fun a => hloop.mono fun r hr => ?_)
      · have : ks ≠ [] := fun e => by subst e; simp at a
        simp (config := { decide := true }) [wf, this]
      · have : ks = [] := List.eq_nil_of_length_eq_zero (by omega)
        subst this
        rw [hr]
        simp (config := { decide := true }) [wf]
        rw [Bool.eq_iff_iff]; simp only [Bool.and_eq_true]; constructor <;> intro hh <;> simp_all
    · subst h
      unfold g_ref02_Formed_s_j4
      refine WP.iteN (fun a => WP.iteT (WP.ret ?_)) (fun a => WP.bd (rincr_eq hl2) (WP.iteNb (WP.iteB (fun b => hloop.mono fun r hr => ?_) (fun b => WP.ret ?_))))
      · have : ¬ ks.length = l.length := fun e => a (by rw [e])
        simp (config := { decide := true }) [wf, this]
      · have a' : ks.length = l.length := by omega
        rw [hr]
        simp (config := { decide := true }) [wf, a', b]
        rw [Bool.eq_iff_iff]; simp only [Bool.and_eq_true]; constructor <;> intro hh <;> simp_all
      · simp (config := { decide := true }) [wf, b]
    · refine WP.ret ?_
      simp [wf, h1, h2, h3, h4]
theorem rFormed_eq : ∀ (fu : Nat) (v : Val), hgt v ≤ fu → rng v → g_ref02_Formed fu v = some (wf v)
  | 0, .mk k n s l ks, h, _ => by simp [hgt] at h
  | fu + 1, .mk k n s l ks, h, hr => by
    simp only [hgt, Nat.add_le_add_iff_right, hgtL_le] at h
    simp only [rng, rngL_iff] at hr
    exact WP.eq (rFormed_s (v := .mk k n s l ks) (fun x hx => rFormed_eq fu x (h x hx) (hr.2.2.2.2.2.2 x hx)) hr.2.2.2.1 hr.2.2.2.2.1)
theorem rDepth_s {rc : Val → Option Int} {v : Val} (hrc : ∀ x ∈ v.l, rc x = some ((dep x : Nat) : Int)) (hd : ∀ x ∈ v.l, dep x ≤ 1000) (hl : v.l.length ≤ 140737488355328) : WP (g_ref02_Depth_s rc v) fun r => r = ((dep v : Nat) : Int) := by
  have hflat : ∀ b : Bool, (b = true ↔ v.k = 1 ∨ v.k = 2) → WP (g_ref02_Depth_s_j1 v rc b) fun r => r = ((dep v : Nat) : Int) := by
    intro b hb
    unfold g_ref02_Depth_s_j1
    refine WP.iteB (fun h => WP.ret ?_) (fun h => ?_)
    · cases v with
      | mk k n s l ks => simp only [Val.k] at hb; simp [dep, hb.1 h]
    · have hn : ¬ (v.k = 1 ∨ v.k = 2) := fun hh => by rw [hb.2 hh] at h; cases h
      have hdep : dep v = depL v.l + 1 := by
        cases v with
        | mk k n s l ks => simp only [Val.k] at hn; simp [dep, hn, Val.l]
      refine WP.loop (fun (p : Int × Nat) => p.2 ≤ v.l.length ∧ p.1 = ((depL (v.l.take p.2) : Nat) : Int)) (fun p => v.l.length - p.2) ?_ ⟨by simp, by simp [depL]⟩
      rintro ⟨d, i⟩ ⟨g1, g2⟩
      simp only at g1 g2
      simp only [g_ref02_Depth_s_l3]
      refine WP.iteD (fun hi => ?_) (fun hi => ?_)
      · have hi' : i < v.l.length := by omega
        refine WP.gn hi' fun x hx => WP.bd (hrc x (List.mem_of_getElem? hx)) (WP.ckI (by omega) (WP.ret ⟨⟨by simp only; omega, ?_⟩, by simp only; omega⟩))
        simp only
        rw [depL_take_succ hx, g2]
        split <;> omega
      · have e : i = v.l.length := by omega
        rw [e, List.take_length] at g2
        have hdd : depL v.l ≤ 1000 := depL_le.2 hd
        refine WP.up ?_
        show WP (g_ref02_Depth_s_j2 d) fun r => r = ((dep v : Nat) : Int)
        unfold g_ref02_Depth_s_j2
        refine WP.ckI (by omega) (WP.ret ?_)
        rw [hdep, g2]; simp
  unfold g_ref02_Depth_s
  refine WP.iteE (fun h => hflat true (by simp [h])) (fun h => hflat _ (by simp [h]))
theorem rDepth_eq : ∀ (fu : Nat) (v : Val), hgt v ≤ fu → fu ≤ 1000 → rng v → g_ref02_Depth fu v = some ((dep v : Nat) : Int)
  | 0, .mk k n s l ks, h, _, _ => by simp [hgt] at h
  | fu + 1, .mk k n s l ks, h, hf, hr => by
    simp only [hgt, Nat.add_le_add_iff_right, hgtL_le] at h
    simp only [rng, rngL_iff] at hr
    exact WP.eq (rDepth_s (v := .mk k n s l ks) (fun x hx => rDepth_eq fu x (h x hx) (by omega) (hr.2.2.2.2.2.2 x hx)) (fun x hx => Nat.le_trans (dep_hgt x) (by have := h x hx; omega)) hr.2.2.2.1)
theorem rCheck_eq {v : Val} (h : hgt v ≤ 60) (hr : rng v) : g_ref02_Check v = some (chk v) := by
  refine WP.eq ?_
  unfold g_ref02_Check
  refine WP.bd (rFormed_eq 60 v h hr) ?_
  unfold chk
  refine WP.iteNb (WP.iteB (fun hw => ?_) (fun hw => WP.ret (by simp [hw])))
  refine WP.bd (rDepth_eq 60 v h (by omega) hr) ?_
  refine WP.iteD (fun h => WP.ret ?_) (fun h => WP.ret ?_)
  · rw [if_pos hw, if_pos (by omega)]
  · rw [if_pos hw, if_neg (by omega)]
/-! ### few -/
/-- What a small value is. -/
def Sm (v : Val) : Prop := cnt v ≤ 200 ∧ hgt v ≤ 22 ∧ rng v
theorem tdiv_nat (a b : Nat) : ((a : Nat) : Int).tdiv ((b : Nat) : Int) = ((a / b : Nat) : Int) := by
  rw [Int.tdiv_eq_ediv_of_nonneg (Int.natCast_nonneg a)]; rfl
def keyS (ks : List (List UInt8)) : Nat := (ks.map fun k => k.length / 50).sum
theorem keyS_take {ks : List (List UInt8)} {i : Nat} {x : List UInt8} (h : ks[i]? = some x) : keyS (ks.take (i + 1)) = keyS (ks.take i) + x.length / 50 := by
  simp [keyS, List.take_add_one, h]
theorem cntL_take {l : List Val} {i : Nat} {x : Val} (h : l[i]? = some x) : cntL (l.take (i + 1)) = cntL (l.take i) + cnt x := by
  rw [List.take_add_one, h, cntL_append]; simp [cntL]
theorem keyS_leB {ks : List (List UInt8)} {B : Nat} (h : ∀ k ∈ ks, k.length / 50 ≤ B) (i : Nat) : keyS (ks.take i) ≤ i * B := by
  induction i with
  | zero => simp [keyS]
  | succ i ih =>
    cases hx : ks[i]? with
    | none =>
      have : ks.take (i + 1) = ks.take i := by rw [List.take_add_one, hx]; simp
      rw [this, Nat.succ_mul]; omega
    | some x =>
      rw [keyS_take hx, Nat.succ_mul]
      have := h x (List.mem_of_getElem? hx)
      omega
theorem keyS_le {ks : List (List UInt8)} (h : ∀ k ∈ ks, k.length ≤ 140737488355328) (i : Nat) : keyS (ks.take i) ≤ i * 2814749767107 :=
  keyS_leB (fun k hk => by have := h k hk; omega) i
/-- What 'count' answers: the parts, where that is at most 1000 and nothing lies too deep. -/
def cntOk (d : Int) (fu : Nat) (v : Val) (r : Int) : Prop := 0 ≤ r ∧ r ≤ 562949953421312 + 1001 * fu ∧ (r ≤ 200 → (cnt v : Int) = r ∧ (hgt v : Int) ≤ d + 1)
theorem count_s {rc : Val → Int → Option Int} {fu : Nat} {v : Val} {d : Int} (hf : fu ≤ 100) (hd1 : -1 ≤ d) (hd2 : d ≤ 100) (hr : rng v) (hrc : 0 ≤ d → ∀ x ∈ v.l, WP (rc x (d - 1)) (cntOk (d - 1) fu x)) : WP (g_ref02_count_s rc v d) (cntOk d (fu + 1) v) := by
  cases v with
  | mk k n s l ks =>
    simp only [Val.l] at hrc
    simp only [rng, rngL_iff] at hr
    obtain ⟨r1, r2, r3, r4, r5, r6, r7⟩ := hr
    have t1 : ((s.length : Nat) : Int).tdiv 200 = ((s.length / 200 : Nat) : Int) := tdiv_nat s.length 200
    have t2 : ∀ x : List UInt8, ((x.length : Nat) : Int).tdiv 50 = ((x.length / 50 : Nat) : Int) := fun x => tdiv_nat x.length 50
    have big : cntOk d (fu + 1) (.mk k n s l ks) 1000 := ⟨by omega, by omega, fun h => by omega⟩
    unfold g_ref02_count_s
    simp only [Val.s, Val.l, Val.ks, t1]
    refine WP.ckI (by omega) (WP.ckI (by omega) (WP.ckI (by omega) ?_))
    unfold g_ref02_count_s_j1
    refine WP.iteD (fun _ => WP.iteT (WP.ret big)) (fun hd0 => WP.iteD (fun _ => WP.iteT (WP.ret big)) (fun hl60 => ?_))
    refine WP.iteB (fun _ => WP.ret big) (fun hk60 => ?_)
    have hk60' : ks.length ≤ 60 := by have := of_decide_eq_false hk60; omega
    refine WP.loop (fun (p : Int × Nat) => p.2 ≤ ks.length ∧ p.1 = ((1 + s.length / 200 + ks.length + keyS (ks.take p.2) : Nat) : Int)) (fun p => ks.length - p.2) ?_ ⟨by simp, by simp only [List.take_zero, keyS, List.map_nil, List.sum_nil, Val.s, Val.ks]; omega⟩
    rintro ⟨m, i⟩ ⟨g1, g2⟩
    simp only at g1 g2
    simp only [g_ref02_count_s_l6, Val.ks]
    refine WP.iteD (fun hi => ?_) (fun hi => ?_)
    · have hi' : i < ks.length := by omega
      have hks := keyS_le r6 i
      refine WP.gn hi' fun x hx => ?_
      have hx2 := r6 x (List.mem_of_getElem? hx)
      rw [t2 x]
      refine WP.ckI (by omega) (WP.ckI (by omega) (WP.ckI (by omega) (WP.ret ⟨⟨by simp only; omega, ?_⟩, by simp only; omega⟩)))
      simp only
      rw [keyS_take hx, g2]; omega
    · have e : i = ks.length := by omega
      have hks := keyS_le r6 i
      rw [e, List.take_length] at g2
      rw [e, List.take_length] at hks
      refine WP.up ?_
      show WP (g_ref02_count_s_j2 (.mk k n s l ks) d rc m) (cntOk d (fu + 1) (.mk k n s l ks))
      unfold g_ref02_count_s_j2
      refine WP.loop (fun (p : Int × Nat) => p.2 ≤ l.length ∧ 0 ≤ p.1 ∧ p.1 ≤ 562949953421312 + 1001 * (fu + 1) ∧ (p.1 ≤ 200 → p.1 = m + ((cntL (l.take p.2) : Nat) : Int) ∧ ∀ x ∈ l.take p.2, (hgt x : Int) ≤ d)) (fun p => l.length - p.2) ?_ ⟨by simp, by simp only; omega, by simp only; omega, fun _ => by simp [cntL]⟩
      rintro ⟨c, i⟩ ⟨q1, q2, q3, q4⟩
      simp only at q1 q2 q3 q4
      have hout : ¬ c ≤ 1000 ∨ i = l.length → cntOk d (fu + 1) (.mk k n s l ks) c := by
        intro ho
        refine ⟨q2, q3, fun h200 => ?_⟩
        obtain ⟨q5, q6⟩ := q4 h200
        have ei : i = l.length := by omega
        rw [ei, List.take_length] at q5 q6
        refine ⟨?_, ?_⟩
        · rw [q5, g2]; simp only [cnt, keyS]; omega
        · have : hgtL l ≤ d.toNat := hgtL_le.2 fun x hx => by have := q6 x hx; omega
          simp only [hgt]; omega
      simp only [g_ref02_count_s_l4, Val.l]
      unfold g_ref02_count_s_j5
      refine WP.iteD (fun hi => ?_) (fun hi => WP.iteF (WP.up (WP.ret (hout (.inr (by omega))))))
      have hi' : i < l.length := by omega
      refine WP.iteB (fun hc => ?_) (fun hc => WP.up (WP.ret (hout (.inl (of_decide_eq_false hc)))))
      have hc' := of_decide_eq_true hc
      refine WP.gn hi' fun x (hx : l[i]? = some x) => WP.ckI (by omega) (WP.bdW ((hrc (by omega) x (List.mem_of_getElem? hx)).mono fun y ⟨y1, y2, y3⟩ => ?_))
      refine WP.ckI (by omega) (WP.ckI (by omega) (WP.ret ⟨⟨by simp only; omega, by simp only; omega, by simp only; omega, fun h200 => ?_⟩, by simp only; omega⟩))
      simp only at h200 ⊢
      obtain ⟨q5, q6⟩ := q4 (by omega)
      obtain ⟨y4, y5⟩ := y3 (by omega)
      refine ⟨by rw [cntL_take hx, q5]; omega, fun z hz => ?_⟩
      rw [List.take_add_one, hx] at hz
      rcases List.mem_append.1 hz with hz | hz
      · exact q6 z hz
      · simp at hz; subst hz; omega
theorem count_eq : ∀ (fu : Nat) (v : Val) (d : Int), d + 1 < fu → fu ≤ 100 → -1 ≤ d → rng v → WP (g_ref02_count fu v d) (cntOk d fu v)
  | 0, v, d, h, _, hd, _ => by omega
  | fu + 1, v, d, h, hf, hd, hr => by
    show WP (g_ref02_count_s (g_ref02_count fu) v d) _
    refine count_s (by omega) hd (by omega) hr fun hd0 x hx => count_eq fu x (d - 1) (by omega) (by omega) (by omega) ?_
    cases v with
    | mk k n s l ks =>
      simp only [rng, rngL_iff] at hr
      exact hr.2.2.2.2.2.2 x hx
theorem few_eq {l : List Val} (hr : ∀ x ∈ l, rng x) (hl : l.length ≤ 140737488355328) : WP (g_law02_few l) fun b => b = true → ∀ x ∈ l, Sm x := by
  unfold g_law02_few
  refine WP.loop (fun i => i ≤ l.length ∧ ∀ x ∈ l.take i, Sm x) (fun i => l.length - i) ?_ ⟨by omega, by simp⟩
  rintro i ⟨g1, g2⟩
  simp only [g_law02_few_l2]
  refine WP.iteD (fun hi => ?_) (fun hi => WP.up (WP.ret fun _ => ?_))
  · have hi' : i < l.length := by omega
    refine WP.gn hi' fun x hx => ?_
    have hx' := List.mem_of_getElem? hx
    unfold g_ref02_Few
    refine WP.bdW (WP.bdW ((count_eq 60 x 20 (by omega) (by omega) (by omega) (hr x hx')).mono fun c ⟨c1, c2, c3⟩ => WP.ret ?_))
    refine WP.iteNb (WP.iteD (fun h => WP.ckI (by omega) (WP.ret ⟨⟨by omega, ?_⟩, by show l.length - (i + 1) < l.length - i; omega⟩)) (fun h => WP.up (WP.ret fun h => by cases h)))
    intro z hz
    rw [List.take_add_one, hx] at hz
    rcases List.mem_append.1 hz with hz | hz
    · exact g2 z hz
    · simp at hz; subst hz
      obtain ⟨c4, c5⟩ := c3 h
      exact ⟨by omega, by omega, hr z hx'⟩
  · have e : i = l.length := by omega
    rw [e, List.take_length] at g2
    exact g2
end Go.Proofs.YtimalbkjflfdoaaDoor

/-
  Same and Get of chapter 2 (program and reference) in plain Lean. Conditions: those of each theorem.
-/
set_option linter.unusedVariables false
set_option linter.unusedSimpArgs false
set_option maxRecDepth 100000
namespace Go.Proofs.YtimalbkjflfdoaaDoor
open Go.DL
theorem list_ext_of {α : Type} {a b : List α} (hl : a.length = b.length) (h : ∀ (i : Nat) (x y : α), a[i]? = some x → b[i]? = some y → x = y) : a = b := by
  apply List.ext_getElem hl
  intro i h1 h2
  exact h i _ _ (List.getElem?_eq_getElem h1) (List.getElem?_eq_getElem h2)
theorem WP.iteL {α ρ : Type} {Q : ρ → Prop} [BEq α] [LawfulBEq α] {x y : α} [i : Decidable ((x == y) = true)] {a b : Option ρ} (h1 : x = y → WP a Q) (h2 : ¬ x = y → WP b Q) : WP (@ite _ ((x == y) = true) i a b) Q := by
  by_cases h : x = y
  · rw [if_pos (beq_iff_eq.2 h)]; exact h1 h
  · rw [if_neg (by simpa using h)]; exact h2 h
theorem lnat {a b : Nat} : (((a : Nat) : Int) != ((b : Nat) : Int)) = true ↔ a ≠ b := by simp; omega
/-- Two lists, element by element. -/
def upto {α : Type} (a b : List α) (i : Nat) : Prop := ∀ (j : Nat) (x y : α), j < i → a[j]? = some x → b[j]? = some y → x = y
theorem upto_succ {α : Type} {a b : List α} {i : Nat} {x y : α} (h : upto a b i) (hx : a[i]? = some x) (hy : b[i]? = some y) (e : x = y) : upto a b (i + 1) := by
  intro j p q hj hp hq
  by_cases hji : j = i
  · subst hji; rw [hx] at hp; rw [hy] at hq; cases hp; cases hq; exact e
  · exact h j p q (by omega) hp hq
theorem upto_end {α : Type} {a b : List α} (hl : a.length = b.length) (h : upto a b a.length) : a = b :=
  list_ext_of hl fun i x y hx hy => h i x y (List.getElem?_eq_some_iff.1 hx).1 hx hy
theorem upto_ne {α : Type} {a b : List α} {i : Nat} {x y : α} (hx : a[i]? = some x) (hy : b[i]? = some y) (e : x ≠ y) : a ≠ b := fun h => by subst h; rw [hx] at hy; exact e (Option.some.inj hy)
theorem equalS_eq {a b : List (List UInt8)} (ha : a.length ≤ 140737488355328) : WP (g_slices_Equal_Lstring_string a b) fun r => r = true ↔ a = b := by
  unfold g_slices_Equal_Lstring_string
  refine WP.iteN (fun h => WP.ret ?_) (fun h => ?_)
  · have : a ≠ b := fun e => h (by rw [e])
    simp [this]
  · have hl : a.length = b.length := by omega
    refine WP.loop (fun i => i ≤ a.length ∧ upto a b i) (fun i => a.length - i) ?_ ⟨by omega, fun j x y h => by omega⟩
    rintro i ⟨g1, g2⟩
    simp only [g_slices_Equal_Lstring_string_l2]
    refine WP.iteD (fun hi => ?_) (fun hi => WP.up (WP.ret ?_))
    · refine WP.gn (by omega) fun x hx => WP.gn (by omega) fun y hy => WP.iteNb (WP.iteL (fun e => WP.ckI (by omega) (WP.ret ⟨⟨by omega, upto_succ g2 hx hy e⟩, by show a.length - (i + 1) < a.length - i; omega⟩)) (fun e => WP.up (WP.ret ?_)))
      show false = true ↔ a = b
      simp [upto_ne hx hy e]
    · show true = true ↔ a = b
      have e : i = a.length := by omega
      subst e
      simp [upto_end hl g2]
theorem Val.ext_iff' {a b : Val} : a = b ↔ a.k = b.k ∧ a.n = b.n ∧ a.s = b.s ∧ a.ks = b.ks ∧ a.l = b.l := by
  cases a; cases b
  simp only [Val.mk.injEq, Val.k, Val.n, Val.s, Val.l, Val.ks]
  constructor <;> rintro ⟨h1, h2, h3, h4, h5⟩ <;> exact ⟨h1, h2, h3, h5, h4⟩
theorem same_s {rc : Val → Val → Option Bool} {a b : Val} (hrc : ∀ x ∈ a.l, ∀ y, WP (rc x y) fun r => r = true ↔ x = y) (h1 : a.l.length ≤ 140737488355328) (h2 : a.ks.length ≤ 140737488355328) : WP (g_codec_Same_s rc a b) fun r => r = true ↔ a = b := by
  have no : ∀ {p : Prop}, ¬ p → (false = true ↔ p) := fun h => by simp [h]
  unfold g_codec_Same_s
  refine WP.iteE (fun ek => ?_) (fun ek => WP.ret (no fun e => ek (by rw [e])))
  refine WP.iteE (fun en => ?_) (fun en => WP.ret (no fun e => en (by rw [e])))
  refine WP.iteL (fun es => ?_) (fun es => WP.ret (no fun e => es (by rw [e])))
  refine WP.bdW ((equalS_eq h2).mono fun r hr => ?_)
  refine WP.iteB (fun er => ?_) (fun er => WP.ret (no fun e => by rw [hr.2 (by rw [e])] at er; cases er))
  have eks := hr.1 er
  unfold g_codec_Same_s_j1
  refine WP.iteN (fun h => WP.ret (no fun e => h (by rw [e]))) (fun h => ?_)
  have hl : a.l.length = b.l.length := by omega
  refine WP.loop (fun i => i ≤ a.l.length ∧ upto a.l b.l i) (fun i => a.l.length - i) ?_ ⟨by omega, fun j x y h => by omega⟩
  rintro i ⟨g1, g2⟩
  simp only [g_codec_Same_s_l3]
  refine WP.iteD (fun hi => ?_) (fun hi => WP.up (WP.ret ?_))
  · refine WP.gn (by omega) fun x hx => WP.gn (by omega) fun y hy => WP.bdW ((hrc x (List.mem_of_getElem? hx) y).mono fun q hq => ?_)
    refine WP.iteNb (WP.iteB (fun e => WP.ckI (by omega) (WP.ret ⟨⟨by omega, upto_succ g2 hx hy (hq.1 e)⟩, by show a.l.length - (i + 1) < a.l.length - i; omega⟩)) (fun e => WP.up (WP.ret ?_)))
    show false = true ↔ a = b
    exact no fun ee => upto_ne hx hy (fun e2 => by rw [hq.2 e2] at e; cases e) (by rw [ee])
  · show true = true ↔ a = b
    have e : i = a.l.length := by omega
    subst e
    simp only [true_iff]
    exact Val.ext_iff'.2 ⟨ek, en, es, eks, upto_end hl g2⟩
theorem same_eq : ∀ (fu : Nat) (a b : Val), hgt a ≤ fu → rng a → WP (g_codec_Same fu a b) fun r => r = true ↔ a = b
  | 0, .mk k n s l ks, b, h, _ => by simp [hgt] at h
  | fu + 1, .mk k n s l ks, b, h, hr => by
    simp only [hgt, Nat.add_le_add_iff_right, hgtL_le] at h
    simp only [rng, rngL_iff] at hr
    exact same_s (a := .mk k n s l ks) (fun x hx y => same_eq fu x y (h x hx) (hr.2.2.2.2.2.2 x hx)) hr.2.2.2.1 hr.2.2.2.2.1
theorem rsame_s {rc : Val → Val → Option Bool} {a b : Val} (hrc : ∀ x ∈ a.l, ∀ y, WP (rc x y) fun r => r = true ↔ x = y) (h1 : a.l.length ≤ 140737488355328) (h2 : a.ks.length ≤ 140737488355328) : WP (g_ref02_Same_s rc a b) fun r => r = true ↔ a = b := by
  have no : ∀ {p : Prop}, ¬ p → (false = true ↔ p) := fun h => by simp [h]
  unfold g_ref02_Same_s g_ref02_Same_s_j1
  refine WP.iteN (fun h => WP.iteT (WP.ret (no fun e => h (by rw [e])))) (fun ek => ?_)
  refine WP.iteN (fun h => WP.iteT (WP.ret (no fun e => h (by rw [e])))) (fun en => ?_)
  refine WP.iteNb (WP.iteL (fun es => ?_) (fun h => WP.iteT (WP.ret (no fun e => h (by rw [e])))))
  refine WP.iteN (fun h => WP.iteT (WP.ret (no fun e => h (by rw [e])))) (fun hl' => ?_)
  refine WP.iteB (fun h => WP.ret (no fun e => lnat.1 h (by rw [e]))) (fun h => ?_)
  have hl : a.l.length = b.l.length := by omega
  have hk : a.ks.length = b.ks.length := by
    rcases Nat.decEq a.ks.length b.ks.length with h3 | h3
    · rw [lnat.2 h3] at h; cases h
    · exact h3
  refine WP.loop (fun i => i ≤ a.ks.length ∧ upto a.ks b.ks i) (fun i => a.ks.length - i) ?_ ⟨by omega, fun j x y h => by omega⟩
  rintro i ⟨g1, g2⟩
  simp only [g_ref02_Same_s_l5]
  refine WP.iteD (fun hi => ?_) (fun hi => WP.up ?_)
  · refine WP.gn (by omega) fun x hx => WP.gn (by omega) fun y hy => WP.iteNb (WP.iteL (fun e => WP.ckI (by omega) (WP.ret ⟨⟨by omega, upto_succ g2 hx hy e⟩, by show a.ks.length - (i + 1) < a.ks.length - i; omega⟩)) (fun e => WP.up (WP.ret ?_)))
    show false = true ↔ a = b
    exact no fun ee => upto_ne hx hy e (by rw [ee])
  show WP (g_ref02_Same_s_j2 a b rc) fun r => r = true ↔ a = b
  have e : i = a.ks.length := by omega
  subst e
  have eks := upto_end hk g2
  unfold g_ref02_Same_s_j2
  refine WP.loop (fun i => i ≤ a.l.length ∧ upto a.l b.l i) (fun i => a.l.length - i) ?_ ⟨by omega, fun j x y h => by omega⟩
  rintro i ⟨g1, g2⟩
  simp only [g_ref02_Same_s_l4]
  refine WP.iteD (fun hi => ?_) (fun hi => WP.up (WP.ret ?_))
  · refine WP.gn (by omega) fun x hx => WP.gn (by omega) fun y hy => WP.bdW ((hrc x (List.mem_of_getElem? hx) y).mono fun q hq => ?_)
    refine WP.iteNb (WP.iteB (fun e => WP.ckI (by omega) (WP.ret ⟨⟨by omega, upto_succ g2 hx hy (hq.1 e)⟩, by show a.l.length - (i + 1) < a.l.length - i; omega⟩)) (fun e => WP.up (WP.ret ?_)))
    show false = true ↔ a = b
    exact no fun ee => upto_ne hx hy (fun e2 => by rw [hq.2 e2] at e; cases e) (by rw [ee])
  · show true = true ↔ a = b
    have e : i = a.l.length := by omega
    subst e
    simp only [true_iff]
    exact Val.ext_iff'.2 ⟨ek, en, es, eks, upto_end hl g2⟩
theorem rsame_eq : ∀ (fu : Nat) (a b : Val), hgt a ≤ fu → rng a → WP (g_ref02_Same fu a b) fun r => r = true ↔ a = b
  | 0, .mk k n s l ks, b, h, _ => by simp [hgt] at h
  | fu + 1, .mk k n s l ks, b, h, hr => by
    simp only [hgt, Nat.add_le_add_iff_right, hgtL_le] at h
    simp only [rng, rngL_iff] at hr
    exact rsame_s (a := .mk k n s l ks) (fun x hx y => rsame_eq fu x y (h x hx) (hr.2.2.2.2.2.2 x hx)) hr.2.2.2.1 hr.2.2.2.2.1
/-- What Get finds. -/
def getV (v : Val) (key : List UInt8) : Val × Bool := if v.k = 4 then (match v.l[v.ks.idxOf key]? with | some x => if v.ks.idxOf key < v.ks.length then (x, true) else (zV, false) | none => (zV, false)) else (zV, false)
theorem idxOf_ne {a key : List UInt8} {l : List (List UInt8)} (h : a ≠ key) : (a :: l).idxOf key = l.idxOf key + 1 := by
  rw [List.idxOf_cons, beq_eq_false_iff_ne.2 h]; rfl
theorem idxOf_at {l : List (List UInt8)} {key : List UInt8} {i : Nat} (h1 : ∀ x ∈ l.take i, x ≠ key) (h2 : l[i]? = some key) : l.idxOf key = i := by
  induction l generalizing i with
  | nil => simp at h2
  | cons a l ih =>
    cases i with
    | zero => simp at h2; subst h2; simp
    | succ i =>
      have hne : a ≠ key := h1 a (by simp)
      rw [idxOf_ne hne, ih (i := i) (fun x hx => h1 x (by simp [hx])) (by simpa using h2)]
theorem idxOf_none {l : List (List UInt8)} {key : List UInt8} (h1 : ∀ x ∈ l, x ≠ key) : l.idxOf key = l.length := by
  induction l with
  | nil => rfl
  | cons a l ih =>
    have hne : a ≠ key := h1 a (by simp)
    rw [idxOf_ne hne, ih (fun x hx => h1 x (by simp [hx])), List.length_cons]
theorem indexS_eq {l : List (List UInt8)} {key : List UInt8} (hl : l.length ≤ 140737488355328) : g_slices_Index_Lstring_string l key = some (if l.idxOf key < l.length then ((l.idxOf key : Nat) : Int) else -1) := by
  refine WP.eq ?_
  unfold g_slices_Index_Lstring_string
  refine WP.loop (fun i => i ≤ l.length ∧ ∀ x ∈ l.take i, x ≠ key) (fun i => l.length - i) ?_ ⟨by omega, by simp⟩
  rintro i ⟨g1, g2⟩
  simp only [g_slices_Index_Lstring_string_l2]
  refine WP.iteD (fun hi => ?_) (fun hi => WP.up (WP.ret ?_))
  · refine WP.gn (by omega) fun x hx => WP.iteL (fun e => WP.up (WP.ret ?_)) (fun e => WP.ckI (by omega) (WP.ret ⟨⟨by omega, ?_⟩, by show l.length - (i + 1) < l.length - i; omega⟩))
    · subst e
      show ((i : Nat) : Int) = _
      rw [idxOf_at g2 hx, if_pos (by omega)]
    · intro y hy
      rw [List.take_add_one, hx] at hy
      rcases List.mem_append.1 hy with hy | hy
      · exact g2 y hy
      · simp at hy; subst hy; exact fun h => e h.symm
  · show (-1 : Int) = _
    have e : i = l.length := by omega
    rw [e, List.take_length] at g2
    rw [idxOf_none g2, if_neg (by omega)]
theorem get_eq {v : Val} {key : List UInt8} (h1 : v.ks.length ≤ 140737488355328) (h2 : v.l.length ≤ 140737488355328) : g_codec_Get v key = some (getV v key) := by
  refine WP.eq ?_
  unfold g_codec_Get
  refine WP.bd (indexS_eq h1) ?_
  unfold g_codec_Get_j1 getV
  refine WP.iteN (fun h => WP.iteT (WP.ret (by rw [if_neg h]; rfl))) (fun h => ?_)
  rw [if_pos h]
  by_cases hi : v.ks.idxOf key < v.ks.length
  · rw [if_pos hi]
    refine WP.iteD (fun h => by omega) (fun _ => WP.iteB (fun hb => WP.ret ?_) (fun hb => ?_))
    · have hb' := of_decide_eq_true hb
      rw [List.getElem?_eq_none (by omega)]; rfl
    · have hb' := of_decide_eq_false hb
      refine WP.gt (by omega) fun x hx => WP.ret ?_
      rw [show ((v.ks.idxOf key : Nat) : Int).toNat = v.ks.idxOf key by omega] at hx
      rw [hx]; simp [hi]
  · rw [if_neg hi]
    refine WP.iteD (fun h => WP.iteT (WP.ret ?_)) (fun h => by omega)
    cases v.l[v.ks.idxOf key]? with
    | none => rfl
    | some x => simp [hi]; rfl
theorem rget_eq {v : Val} {key : List UInt8} (h1 : v.ks.length ≤ 140737488355328) (h2 : v.l.length ≤ 140737488355328) : g_ref02_Get v key = some (getV v key) := by
  refine WP.eq ?_
  unfold g_ref02_Get getV
  refine WP.iteN (fun h => WP.ret (by rw [if_neg h]; rfl)) (fun h => ?_)
  rw [if_pos h]
  refine WP.loop (fun i => i ≤ v.ks.length ∧ ∀ x ∈ v.ks.take i, x ≠ key) (fun i => v.ks.length - i) ?_ ⟨by omega, by simp⟩
  rintro i ⟨g1, g2⟩
  simp only [g_ref02_Get_l2]
  refine WP.iteD (fun hi => ?_) (fun hi => WP.up (WP.ret ?_))
  · refine WP.gn (by omega) fun x hx => WP.iteL (fun e => ?_) (fun e => WP.ckI (by omega) (WP.ret ⟨⟨by omega, ?_⟩, by show v.ks.length - (i + 1) < v.ks.length - i; omega⟩))
    · subst e
      rw [idxOf_at g2 hx]
      refine WP.iteD (fun hh => WP.up (WP.ret ?_)) (fun hh => WP.gn (by omega) fun y hy => WP.up (WP.ret ?_))
      · show (zV, false) = _
        rw [List.getElem?_eq_none (by omega)]
      · show (y, true) = _
        rw [hy]; simp; omega
    · intro y hy
      rw [List.take_add_one, hx] at hy
      rcases List.mem_append.1 hy with hy | hy
      · exact g2 y hy
      · simp at hy; subst hy; exact e
  · show (zV, false) = _
    have e : i = v.ks.length := by omega
    rw [e, List.take_length] at g2
    rw [idxOf_none g2]
    cases v.l[v.ks.length]? with
    | none => rfl
    | some x => simp
end Go.Proofs.YtimalbkjflfdoaaDoor

/-
  Numerals and encodings of chapter 2 in plain Lean: the writers, the reference's encode. Conditions: those of each theorem.
-/
set_option linter.unusedVariables false
set_option linter.unusedSimpArgs false
set_option maxRecDepth 100000
namespace Go.Proofs.YtimalbkjflfdoaaDoor
open Go.DL
section
variable {α ρ : Type} {Q : ρ → Prop}
theorem WP.bdP {o : Option (α ⊕ Unit)} {k : α → Option ρ} {z : Option ρ} {x : α} (ho : o = some (.inl x)) (h : WP (k x) Q) : WP (Go.DL.bdP o k z) Q := by rw [ho]; exact h
theorem WP.bdPz {o : Option (α ⊕ Unit)} {k : α → Option ρ} {z : Option ρ} (ho : o = some (.inr ())) (h : WP z Q) : WP (Go.DL.bdP o k z) Q := by rw [ho]; exact h
end
theorem u64w {x : Int} (h0 : 0 ≤ x) (h1 : x < 18446744073709551616) : IntKind.u64.wrap x = x := by
  simp only [IntKind.wrap, IntKind.bits, IntKind.signed]
  simp
  omega
theorem u64n {x : Int} (h0 : -18446744073709551616 ≤ x) (h1 : x < 0) : IntKind.u64.wrap x = x + 18446744073709551616 := by
  simp only [IntKind.wrap, IntKind.bits, IntKind.signed]
  simp
  omega
theorem digit_piece {d : Nat} (h : d < 10) : subList ([48, 49, 50, 51, 52, 53, 54, 55, 56, 57] : List UInt8) (some ((d : Nat) : Int)) (some (((d : Nat) : Int) + 1)) = [UInt8.ofNat (48 + d)] := by
  have : d = 0 ∨ d = 1 ∨ d = 2 ∨ d = 3 ∨ d = 4 ∨ d = 5 ∨ d = 6 ∨ d = 7 ∨ d = 8 ∨ d = 9 := by omega
  rcases this with rfl | rfl | rfl | rfl | rfl | rfl | rfl | rfl | rfl | rfl <;> rfl
theorem digits_eq : ∀ (fu u : Nat), u < 10 ^ (fu + 1) → u < 18446744073709551616 → g_ref02_Digits (fu + 1) ((u : Nat) : Int) = some (Lib.decDigits u) := by
  intro fu
  induction fu with
  | zero =>
    intro u h h2
    refine WP.eq ?_
    show WP (g_ref02_Digits_s (g_ref02_Digits 0) _) _
    unfold g_ref02_Digits_s
    have e1 : ((u : Nat) : Int).tmod 10 = ((u % 10 : Nat) : Int) := by
      rw [Int.tmod_eq_emod_of_nonneg (Int.natCast_nonneg u)]; rfl
    rw [e1, u64w (by omega) (by omega)]
    refine WP.sb ⟨by simp only [Option.getD_some]; omega, by simp only [Option.getD_some]; omega, by simp only [Option.getD_some, List.length_cons, List.length_nil]; omega⟩ ?_
    rw [digit_piece (by omega)]
    refine WP.iteD (fun hs => WP.ret ?_) (fun hs => by omega)
    rw [Lib.decDigits_one (by omega), Nat.mod_eq_of_lt (by omega)]
  | succ fu ih =>
    intro u h h2
    refine WP.eq ?_
    show WP (g_ref02_Digits_s (g_ref02_Digits (fu + 1)) _) _
    unfold g_ref02_Digits_s
    have e1 : ((u : Nat) : Int).tmod 10 = ((u % 10 : Nat) : Int) := by
      rw [Int.tmod_eq_emod_of_nonneg (Int.natCast_nonneg u)]; rfl
    have e2 : ((u : Nat) : Int).tdiv 10 = ((u / 10 : Nat) : Int) := tdiv_nat u 10
    rw [e1, e2, u64w (x := ((u % 10 : Nat) : Int) + 1) (by omega) (by omega), u64w (x := ((u / 10 : Nat) : Int)) (by omega) (by omega)]
    refine WP.sb ⟨by simp only [Option.getD_some]; omega, by simp only [Option.getD_some]; omega, by simp only [Option.getD_some, List.length_cons, List.length_nil]; omega⟩ ?_
    rw [digit_piece (by omega)]
    refine WP.iteD (fun hs => WP.ret ?_) (fun hs => ?_)
    · rw [Lib.decDigits_one (by omega), Nat.mod_eq_of_lt (by omega)]
    · refine WP.bd (ih (u / 10) (by rw [Nat.pow_succ] at h; omega) (by omega)) ?_
      have := decDigits_len (u := u / 10) (by omega)
      refine WP.ck (by simp; omega) (WP.ret ?_)
      rw [Lib.decDigits.eq_1 u, dif_neg (by omega)]
theorem digits60 {u : Nat} (h : u < 18446744073709551616) : g_ref02_Digits 60 ((u : Nat) : Int) = some (Lib.decDigits u) :=
  digits_eq 59 u (Nat.lt_of_lt_of_le h (by decide)) h
theorem decimal_eq {n : Int} (h : i64 n) : g_ref02_Decimal n = some (Lib.itoa n) := by
  obtain ⟨h1, h2⟩ := h
  refine WP.eq ?_
  unfold g_ref02_Decimal Lib.itoa
  refine WP.iteD (fun hn => ?_) (fun hn => ?_)
  · have e : IntKind.u64.wrap ((IntKind.u64.wrap (0 - (n + 1))) + 1) = ((n.natAbs : Nat) : Int) := by
      rw [u64w (x := 0 - (n + 1)) (by omega) (by omega), u64w (by omega) (by omega)]; omega
    rw [e]
    refine WP.ckI (by omega) (WP.ckI (by omega) (WP.bd (digits60 (by omega)) ?_))
    have := decDigits_len (u := n.natAbs) (by omega)
    refine WP.ck (by simp; omega) (WP.ret ?_)
    rw [if_pos hn]; rfl
  · have e : IntKind.u64.wrap n = ((n.toNat : Nat) : Int) := by rw [u64w (by omega) (by omega)]; omega
    rw [e, if_neg hn]
    exact WP.bd (digits60 (by omega)) (WP.ret rfl)
theorem rtext_eq {s : List UInt8} (h : s.length ≤ 70368744177664) : g_ref02_text s = some (txt s) := by
  refine WP.eq ?_
  unfold g_ref02_text
  rw [u64w (by omega) (by omega)]
  refine WP.bd (digits60 (by omega)) ?_
  have := decDigits_len (u := s.length) (by omega)
  refine WP.ck (by simp; omega) (WP.ck (by simp; omega) (WP.ck (by simp; omega) (WP.ret ?_)))
  simp [txt]
theorem appInt_eq {dst : List UInt8} {n : Int} (h : i64 n) (hd : dst.length ≤ 70368744177664) : g_strconv_AppendInt dst n 10 = some (.inl (dst ++ Lib.itoa n)) := by
  obtain ⟨h1, h2⟩ := h
  refine WP.eq ?_
  unfold g_strconv_AppendInt g_strconv_AppendInt_j1 Lib.itoa
  refine WP.iteD (fun hn => ?_) (fun hn => ?_)
  · have e : IntKind.u64.wrap (0 - IntKind.u64.wrap n) = ((n.natAbs : Nat) : Int) := by
      rw [u64n (x := n) (by omega) hn, u64n (by omega) (by omega)]; omega
    rw [e]
    refine WP.ck (by simp; omega) (WP.ck (by simp; omega) (WP.ck (by omega) (WP.ck rfl (WP.ret ?_))))
    rw [if_pos hn, Int.toNat_natCast]; simp
  · have e : IntKind.u64.wrap n = ((n.toNat : Nat) : Int) := by rw [u64w (by omega) (by omega)]; omega
    rw [e, if_neg hn]
    refine WP.ck (by omega) (WP.ck (by omega) (WP.ck rfl (WP.ret ?_)))
    rw [Int.toNat_natCast]
theorem text_eq {b s : List UInt8} (hb : b.length ≤ 35184372088832) (h : s.length ≤ 35184372088832) : g_codec_text b s = some (.inl (b ++ txt s)) := by
  refine WP.eq ?_
  unfold g_codec_text
  refine WP.bdP (appInt_eq ⟨by omega, by omega⟩ (by omega)) ?_
  have := decDigits_len (u := s.length) (by omega)
  rw [Lib.itoa_nonneg]
  refine WP.ck (by simp; omega) (WP.ck (by simp; omega) (WP.ret ?_))
  simp [txt]
theorem w1_eq {b : List UInt8} {v : Val} (hk : v.k = 1) (hr : i64 v.n) (hb : b.length ≤ 35184372088832) : g_codec_newWriter_1 b v = some (.inl (b ++ enc v)) := by
  refine WP.eq ?_
  unfold g_codec_newWriter_1
  have := Lib.itoa_length_le v.n hr.1 hr.2
  refine WP.ck (by simp; omega) (WP.bdP (appInt_eq hr (by simp; omega)) (WP.ck (by simp; omega) (WP.ret ?_)))
  cases v with
  | mk k n s l ks => simp only [Val.k] at hk; subst hk; simp [enc, Val.n]
theorem w2_eq {b : List UInt8} {v : Val} (hk : v.k = 2) (hs : v.s.length ≤ 35184372088832) (hb : b.length ≤ 35184372088832) : g_codec_newWriter_2 b v = some (.inl (b ++ enc v)) := by
  refine WP.eq ?_
  unfold g_codec_newWriter_2
  refine WP.bdP (text_eq hb hs) (WP.ret ?_)
  cases v with
  | mk k n s l ks => simp only [Val.k] at hk; subst hk; simp [enc, Val.s]
/-- Which values the writers write, behind which bytes. -/
def Wr (b : List UInt8) (v : Val) : Prop := wf v = true ∧ rng v ∧ b.length + 300 * cnt v ≤ 17592186044416
theorem wf_k {v : Val} (h : wf v = true) : v.k = 1 ∨ v.k = 2 ∨ v.k = 3 ∨ v.k = 4 := by
  rcases Int.lt_or_le v.k 1 with h1 | h1
  · rw [wf_out (.inl h1)] at h; cases h
  rcases Int.lt_or_le 4 v.k with h2 | h2
  · rw [wf_out (.inr h2)] at h; cases h
  omega
theorem encL_take {l : List Val} {i : Nat} {x : Val} (h : l[i]? = some x) : encL (l.take (i + 1)) = encL (l.take i) ++ enc x := by
  rw [List.take_add_one, h, encL_append]; simp [encL]
theorem encD_take {ks : List (List UInt8)} {l : List Val} {i : Nat} {x : Val} {k : List UInt8} (h : l[i]? = some x) (hk : ks[i]? = some k) : encD ks (l.take (i + 1)) = encD ks (l.take i) ++ (txt k ++ enc x) := by
  have hi := (List.getElem?_eq_some_iff.1 h).1
  rw [List.take_add_one, h, encD_append]
  have e : (List.take i l).length = i := by simp; omega
  rw [e]
  have : (ks.drop i).headD [] = k := by
    rw [List.headD_eq_head?_getD, List.head?_drop, hk]; rfl
  simp only [Option.toList, encD, this, List.append_nil]
theorem cntL_take_le (l : List Val) (i : Nat) : cntL (l.take i) ≤ cntL l := by
  rw [← List.take_append_drop i l, cntL_append]
  rw [List.take_append_drop]
  omega
theorem keyS_take_le (l : List (List UInt8)) (i : Nat) : keyS (l.take i) ≤ keyS l := by
  have : keyS l = keyS (l.take i) + keyS (l.drop i) := by
    simp only [keyS, ← List.sum_append, ← List.map_append, List.take_append_drop]
  omega
theorem s_cnt (k n : Int) (s : List UInt8) (l : List Val) (ks : List (List UInt8)) : s.length ≤ 200 * cnt (.mk k n s l ks) := by simp only [cnt]; omega
theorem keyS_mem {ks : List (List UInt8)} {k : List UInt8} (h : k ∈ ks) : k.length / 50 ≤ keyS ks := by
  induction ks with
  | nil => cases h
  | cons a r ih =>
    simp only [keyS, List.map_cons, List.sum_cons]
    rcases List.mem_cons.1 h with rfl | h
    · omega
    · have := ih h; simp only [keyS] at this; omega
theorem k_cnt {k n : Int} {s : List UInt8} {l : List Val} {ks : List (List UInt8)} {x : List UInt8} (h : x ∈ ks) : x.length ≤ 50 * cnt (.mk k n s l ks) := by
  have := keyS_mem h
  simp only [cnt, keyS] at *
  omega
theorem w3_s {rc43 rc44 : List UInt8 → Val → Option (List UInt8 ⊕ Unit)} {b : List UInt8} {v : Val} (hk : v.k = 3) (hw : Wr b v)
    (h3 : ∀ x ∈ v.l, ∀ b, x.k = 3 → Wr b x → rc43 b x = some (.inl (b ++ enc x))) (h4 : ∀ x ∈ v.l, ∀ b, x.k = 4 → Wr b x → rc44 b x = some (.inl (b ++ enc x))) : WP (g_codec_newWriter_3_s rc43 rc44 b v) fun r => r = .inl (b ++ enc v) := by
  obtain ⟨w1, w2, w3⟩ := hw
  cases v with
  | mk k n s l ks =>
    simp only [Val.k] at hk
    simp only [Val.l] at h3 h4
    subst hk
    simp only [rng, rngL_iff] at w2
    obtain ⟨r1, r2, r3, r4, r5, r6, r7⟩ := w2
    have hwl : ∀ x ∈ l, wf x = true := by
      have : wfL l = true := by
        have := w1; simp only [wf] at this
        simp only [show ((3 : Int) == 1) = false by decide, show ((3 : Int) == 2) = false by decide, show ((3 : Int) == 4) = false by decide, Bool.false_and, Bool.false_or, Bool.or_false, Bool.and_eq_true] at this
        exact this.2
      exact wfL_iff.1 this
    have hc : 1 + cntL l ≤ cnt (.mk 3 n s l ks) := by simp only [cnt]; omega
    have henc : enc (.mk 3 n s l ks) = 108 :: (encL l ++ [101]) := by simp [enc]
    unfold g_codec_newWriter_3_s
    refine WP.ck (by simp; omega) ?_
    refine WP.loop (fun (p : Nat × List UInt8) => p.1 ≤ l.length ∧ p.2 = b ++ 108 :: encL (l.take p.1)) (fun p => l.length - p.1) ?_ ⟨by simp, by simp [encL]⟩
    rintro ⟨i, acc⟩ ⟨g1, g2⟩
    simp only at g1 g2
    have hlen : acc.length ≤ b.length + 1 + 300 * cntL (l.take i) := by
      have := encL_len (l.take i) (fun x hx => enc_len (r7 x (List.mem_of_mem_take hx)) (hwl x (List.mem_of_mem_take hx)))
      rw [g2]; simp; omega
    simp only [g_codec_newWriter_3_s_l2, Val.l]
    refine WP.iteD (fun hi => ?_) (fun hi => WP.up ?_)
    · have hi' : i < l.length := by omega
      refine WP.gn hi' fun x (hx : l[i]? = some x) => ?_
      have hxm := List.mem_of_getElem? hx
      have hct := cntL_take hx
      have hct2 := cntL_take_le l (i + 1)
      have hrx := r7 x hxm
      have hwx := hwl x hxm
      have hWr : Wr acc x := ⟨hwx, hrx, by omega⟩
      have hfin : WP (g_codec_newWriter_3_s_j3 i (.mk 3 n s l ks) (acc ++ enc x)) (Rnd (fun (p : Nat × List UInt8) => p.1 ≤ l.length ∧ p.2 = b ++ 108 :: encL (l.take p.1)) (fun p => l.length - p.1) (l.length - i) fun r => r = .inl (b ++ enc (.mk 3 n s l ks))) := by
        unfold g_codec_newWriter_3_s_j3
        refine WP.ckI (by omega) (WP.ret ⟨⟨by simp only; omega, ?_⟩, by simp only; omega⟩)
        simp only
        rw [encL_take hx, g2]; simp
      have hkx := wf_k hwx
      refine WP.iteE (fun h => by omega) (fun _ => WP.iteE (fun h => ?_) (fun _ => WP.iteE (fun h => ?_) (fun _ => WP.iteE (fun h => ?_) (fun _ => WP.ck (by omega) ?_))))
      · refine WP.bdP (w1_eq h ?_ (by omega)) hfin
        cases x with
        | mk k' n' s' l' ks' => simp only [rng] at hrx; exact hrx.2.1
      · refine WP.bdP (w2_eq h ?_ (by omega)) hfin
        cases x with
        | mk k' n' s' l' ks' => have := s_cnt k' n' s' l' ks'; simp only [Val.s]; omega
      · exact WP.bdP (h3 x hxm acc h hWr) hfin
      · exact WP.bdP (h4 x hxm acc (by omega) hWr) hfin
    · have e : i = l.length := by omega
      rw [e, List.take_length] at g2 hlen
      show WP (g_codec_newWriter_3_s_j1 acc) fun r => r = .inl (b ++ enc (.mk 3 n s l ks))
      unfold g_codec_newWriter_3_s_j1
      refine WP.ck (by simp; omega) (WP.ret ?_)
      rw [g2, henc]; simp
theorem w4_s {rc43 rc44 : List UInt8 → Val → Option (List UInt8 ⊕ Unit)} {b : List UInt8} {v : Val} (hk : v.k = 4) (hw : Wr b v)
    (h3 : ∀ x ∈ v.l, ∀ b, x.k = 3 → Wr b x → rc43 b x = some (.inl (b ++ enc x))) (h4 : ∀ x ∈ v.l, ∀ b, x.k = 4 → Wr b x → rc44 b x = some (.inl (b ++ enc x))) : WP (g_codec_newWriter_4_s rc43 rc44 b v) fun r => r = .inl (b ++ enc v) := by
  obtain ⟨w1, w2, w3⟩ := hw
  cases v with
  | mk k n s l ks =>
    simp only [Val.k] at hk
    simp only [Val.l] at h3 h4
    subst hk
    simp only [rng, rngL_iff] at w2
    obtain ⟨r1, r2, r3, r4, r5, r6, r7⟩ := w2
    have hw0 : ks.length = l.length ∧ wfL l = true := by
      have := w1; simp only [wf] at this
      simp only [show ((4 : Int) == 1) = false by decide, show ((4 : Int) == 2) = false by decide, show ((4 : Int) == 3) = false by decide, Bool.false_and, Bool.false_or, Bool.or_false, Bool.and_eq_true, beq_iff_eq] at this
      exact ⟨this.1.1.2, this.2⟩
    obtain ⟨hkl, hwl0⟩ := hw0
    have hwl := wfL_iff.1 hwl0
    have hc : 1 + ks.length + keyS ks + cntL l ≤ cnt (.mk 4 n s l ks) := by simp only [cnt, keyS]; omega
    have henc : enc (.mk 4 n s l ks) = 100 :: (encD ks l ++ [101]) := by simp [enc]
    unfold g_codec_newWriter_4_s
    refine WP.ck (by simp; omega) ?_
    refine WP.loop (fun (p : Nat × List UInt8) => p.1 ≤ l.length ∧ p.2 = b ++ 100 :: encD ks (l.take p.1)) (fun p => l.length - p.1) ?_ ⟨by simp, by simp [encD]⟩
    rintro ⟨i, acc⟩ ⟨g1, g2⟩
    simp only at g1 g2
    have hlen : acc.length ≤ b.length + 1 + 300 * (i + keyS (ks.take i) + cntL (l.take i)) := by
      have h9 : encD ks (l.take i) = encD (ks.take i) (l.take i) := by
        conv => lhs; rw [← List.take_append_drop i ks]
        exact encD_keys _ _ _ (by simp; omega)
      have := encD_len (ks.take i) (l.take i) (fun q hq => r6 q (List.mem_of_mem_take hq)) (fun x hx => enc_len (r7 x (List.mem_of_mem_take hx)) (hwl x (List.mem_of_mem_take hx))) (by simp; omega)
      rw [← h9] at this
      rw [g2]
      simp only [List.length_append, List.length_cons, List.length_take, keyS] at *
      omega
    simp only [g_codec_newWriter_4_s_l2, Val.l, Val.ks]
    refine WP.iteD (fun hi => ?_) (fun hi => WP.up ?_)
    · have hi' : i < l.length := by omega
      refine WP.gn hi' fun x (hx : l[i]? = some x) => ?_
      have hxm := List.mem_of_getElem? hx
      have hct := cntL_take hx
      have hct2 := cntL_take_le l (i + 1)
      have hrx := r7 x hxm
      have hwx := hwl x hxm
      obtain ⟨key, hkey⟩ : ∃ key, ks[i]? = some key := ⟨ks[i]'(by omega), List.getElem?_eq_getElem (by omega)⟩
      have hkm := List.mem_of_getElem? hkey
      have hkt := keyS_take hkey
      have hkt2 := keyS_take_le ks (i + 1)
      have hkc := k_cnt (k := 4) (n := n) (s := s) (l := l) hkm
      have htl := txt_len (r6 key hkm)
      have hWr : Wr (acc ++ txt key) x := ⟨hwx, hrx, by simp only [List.length_append]; omega⟩
      have hfin : WP (g_codec_newWriter_4_s_j3 i (.mk 4 n s l ks) ((acc ++ txt key) ++ enc x)) (Rnd (fun (p : Nat × List UInt8) => p.1 ≤ l.length ∧ p.2 = b ++ 100 :: encD ks (l.take p.1)) (fun p => l.length - p.1) (l.length - i) fun r => r = .inl (b ++ enc (.mk 4 n s l ks))) := by
        unfold g_codec_newWriter_4_s_j3
        refine WP.ckI (by omega) (WP.ret ⟨⟨by simp only; omega, ?_⟩, by simp only; omega⟩)
        simp only
        rw [encD_take hx hkey, g2]; simp
      have hkx := wf_k hwx
      have hgk : ∀ {Q : _ → Prop} {kk : List UInt8 → Option ((Nat × List UInt8) ⊕ (List UInt8 ⊕ Unit))}, WP (kk key) Q → WP (gn ks i kk) Q := fun h => by rw [gn_some hkey]; exact h
      have htx := text_eq (b := acc) (s := key) (by omega) (by omega)
      refine WP.iteE (fun h => by omega) (fun _ => WP.iteE (fun h => hgk (WP.bdP htx ?_)) (fun _ => WP.iteE (fun h => hgk (WP.bdP htx ?_)) (fun _ => WP.iteE (fun h => hgk (WP.bdP htx ?_)) (fun _ => WP.ck (by omega) (hgk (WP.bdP htx ?_))))))
      · refine WP.bdP (w1_eq h ?_ (by have := hWr.2.2; omega)) hfin
        cases x with
        | mk k' n' s' l' ks' => simp only [rng] at hrx; exact hrx.2.1
      · refine WP.bdP (w2_eq h ?_ (by have := hWr.2.2; omega)) hfin
        cases x with
        | mk k' n' s' l' ks' => have := s_cnt k' n' s' l' ks'; simp only [Val.s]; omega
      · exact WP.bdP (h3 x hxm _ h hWr) hfin
      · exact WP.bdP (h4 x hxm _ (by omega) hWr) hfin
    · have e : i = l.length := by omega
      have hkt2 := keyS_take_le ks i
      rw [e, List.take_length] at g2 hlen
      rw [e] at hkt2
      show WP (g_codec_newWriter_4_s_j1 acc) fun r => r = .inl (b ++ enc (.mk 4 n s l ks))
      unfold g_codec_newWriter_4_s_j1
      refine WP.ck (by simp; omega) (WP.ret ?_)
      rw [g2, henc]; simp
theorem writer_eq : ∀ (fu : Nat) (v : Val) (b : List UInt8), hgt v ≤ fu → Wr b v → (v.k = 3 → (g_writer fu).1 b v = some (.inl (b ++ enc v))) ∧ (v.k = 4 → (g_writer fu).2 b v = some (.inl (b ++ enc v)))
  | 0, .mk k n s l ks, b, h, _ => by simp [hgt] at h
  | fu + 1, .mk k n s l ks, b, h, hw => by
    simp only [hgt, Nat.add_le_add_iff_right, hgtL_le] at h
    refine ⟨fun hk => WP.eq (w3_s hk hw (fun x hx b h3 hwx => (writer_eq fu x b (h x hx) hwx).1 h3) fun x hx b h4 hwx => (writer_eq fu x b (h x hx) hwx).2 h4),
      fun hk => WP.eq (w4_s hk hw (fun x hx b h3 hwx => (writer_eq fu x b (h x hx) hwx).1 h3) fun x hx b h4 hwx => (writer_eq fu x b (h x hx) hwx).2 h4)⟩
end Go.Proofs.YtimalbkjflfdoaaDoor

/-
  Encode of chapter 2 (program and reference) in plain Lean. Conditions: those of each theorem.
-/
set_option linter.unusedVariables false
set_option linter.unusedSimpArgs false
set_option maxRecDepth 100000
namespace Go.Proofs.YtimalbkjflfdoaaDoor
open Go.DL
theorem rencode_s {rc : Val → Option (List UInt8)} {v : Val} (hw : Wr [] v) (hrc : ∀ x ∈ v.l, Wr [] x → rc x = some (enc x)) : WP (g_ref02_encode_s rc v) fun r => r = enc v := by
  obtain ⟨w1, w2, w3⟩ := hw
  have hk := wf_k w1
  cases v with
  | mk k n s l ks =>
    simp only [Val.k] at hk
    simp only [Val.l] at hrc
    simp only [rng, rngL_iff] at w2
    obtain ⟨r1, r2, r3, r4, r5, r6, r7⟩ := w2
    have hs := s_cnt k n s l ks
    simp only [List.length_nil, Nat.zero_add] at w3
    unfold g_ref02_encode_s
    refine WP.iteE (fun (h : k = 1) => ?_) (fun (n1 : ¬ k = 1) => WP.iteE (fun (h : k = 2) => ?_) (fun (n2 : ¬ k = 2) => ?_))
    · subst h
      have := Lib.itoa_length_le n r2.1 r2.2
      simp only [Val.n]
      refine WP.bd (decimal_eq r2) (WP.ck (by simp; omega) (WP.ck (by simp; omega) (WP.ck (by simp; omega) (WP.ret ?_))))
      simp [enc]
    · subst h
      refine WP.bd (rtext_eq (s := s) (by omega)) (WP.ret ?_)
      simp [enc]
    have hwl : ∀ x ∈ l, wf x = true := by
      have : wfL l = true := by
        have := w1; simp only [wf] at this
        rcases (show k = 3 ∨ k = 4 by omega) with rfl | rfl <;> simp (config := { decide := true }) at this <;> exact this.2
      exact wfL_iff.1 this
    have hc : 1 + ks.length + keyS ks + cntL l ≤ cnt (.mk k n s l ks) := by simp only [cnt, keyS]; omega
    unfold g_ref02_encode_s_j1
    have main : ∀ (hd : UInt8) (body : Nat → List UInt8), (∀ i, i ≤ l.length → (body i).length ≤ 300 * (ks.length + keyS ks + cntL (l.take i))) → body 0 = [] →
        (∀ i x acc, l[i]? = some x → acc = hd :: body i → WP (g_ref02_encode_s_l3 (.mk k n s l ks) rc (i, acc)) fun z => z = .inl (i + 1, hd :: body (i + 1))) →
        enc (.mk k n s l ks) = hd :: (body l.length ++ [101]) → WP (loopO (g_ref02_encode_s_l3 (.mk k n s l ks) rc) (0, [hd])) fun r => r = enc (.mk k n s l ks) := by
      intro hd body hb1 hb0 hstep hfin
      refine WP.loop (fun (p : Nat × List UInt8) => p.1 ≤ l.length ∧ p.2 = hd :: body p.1) (fun p => l.length - p.1) ?_ ⟨by simp, by simp [hb0]⟩
      rintro ⟨i, acc⟩ ⟨g1, g2⟩
      simp only at g1 g2
      by_cases hi : i < l.length
      · refine (hstep i l[i] acc (List.getElem?_eq_getElem hi) g2).mono ?_
        rintro z rfl
        exact ⟨⟨by simp only; omega, rfl⟩, by simp only; omega⟩
      · have e : i = l.length := by omega
        simp only [g_ref02_encode_s_l3, Val.l]
        refine WP.iteD (fun h => by omega) (fun _ => WP.up ?_)
        show WP (g_ref02_encode_s_j2 acc) fun r => r = enc (.mk k n s l ks)
        unfold g_ref02_encode_s_j2
        have := hb1 i g1
        have h9 := cntL_take_le l i
        refine WP.ck (by rw [g2]; simp only [List.length_cons, List.length_nil]; omega) (WP.ret ?_)
        rw [g2, hfin, e]; simp
    refine WP.iteE (fun (h : k = 4) => ?_) (fun (n4 : ¬ k = 4) => ?_)
    · subst h
      have hkl : ks.length = l.length := by
        have := w1; simp only [wf] at this
        simp (config := { decide := true }) at this
        exact this.1.1.2
      have hbl : ∀ i, i ≤ l.length → (encD ks (l.take i)).length ≤ 300 * (ks.length + keyS ks + cntL (l.take i)) := fun i hi => by
        have := encD_len ks (l.take i) r6 (fun x hx => enc_len (r7 x (List.mem_of_mem_take hx)) (hwl x (List.mem_of_mem_take hx))) (by simp; omega)
        simpa only [keyS] using this
      refine main 100 (fun i => encD ks (l.take i)) hbl (by simp [encD]) (fun i x acc hx hacc => ?_) (by simp [enc])
      have hi := (List.getElem?_eq_some_iff.1 hx).1
      have hxm := List.mem_of_getElem? hx
      have hct := cntL_take hx
      have hct2 := cntL_take_le l (i + 1)
      have hlen := hbl i (by omega)
      have hlen2 := hbl (i + 1) (by omega)
      obtain ⟨key, hkey⟩ : ∃ key, ks[i]? = some key := ⟨ks[i]'(by omega), List.getElem?_eq_getElem (by omega)⟩
      have hkm := List.mem_of_getElem? hkey
      have hkc := k_cnt (k := 4) (n := n) (s := s) (l := l) hkm
      have htl := txt_len (r6 key hkm)
      rw [encD_take hx hkey] at hlen2
      simp only [List.length_append] at hlen2
      simp only [g_ref02_encode_s_l3, Val.l]
      refine WP.iteD (fun _ => ?_) (fun h => by omega)
      refine WP.iteE (fun _ => ?_) (fun h => absurd rfl h)
      refine WP.gn (show i < ks.length by omega) fun key' (hk' : ks[i]? = some key') => ?_
      rw [hkey] at hk'; cases hk'
      refine WP.bd (rtext_eq (by omega)) (WP.ck (by rw [hacc]; simp only [List.length_cons]; omega) ?_)
      unfold g_ref02_encode_s_j4
      refine WP.gn hi fun x' (hx' : l[i]? = some x') => ?_
      rw [hx] at hx'; cases hx'
      refine WP.bd (hrc x hxm ⟨hwl x hxm, r7 x hxm, by simp only [List.length_nil]; omega⟩) (WP.ck (by rw [hacc]; simp only [List.length_cons, List.length_append]; omega) (WP.ckI (by omega) (WP.ret ?_)))
      rw [encD_take hx hkey, hacc]; simp
    · have hk3 : k = 3 := by omega
      subst hk3
      have hbl : ∀ i, i ≤ l.length → (encL (l.take i)).length ≤ 300 * (ks.length + keyS ks + cntL (l.take i)) := fun i hi => by
        have := encL_len (l.take i) (fun x hx => enc_len (r7 x (List.mem_of_mem_take hx)) (hwl x (List.mem_of_mem_take hx)))
        omega
      refine main 108 (fun i => encL (l.take i)) hbl (by simp [encL]) (fun i x acc hx hacc => ?_) (by simp [enc])
      have hi := (List.getElem?_eq_some_iff.1 hx).1
      have hxm := List.mem_of_getElem? hx
      have hct := cntL_take hx
      have hct2 := cntL_take_le l (i + 1)
      have hlen := hbl i (by omega)
      have hlen2 := hbl (i + 1) (by omega)
      rw [encL_take hx] at hlen2
      simp only [List.length_append] at hlen2
      simp only [g_ref02_encode_s_l3, Val.l]
      refine WP.iteD (fun _ => ?_) (fun h => by omega)
      refine WP.iteE (fun h => absurd h n4) (fun _ => ?_)
      unfold g_ref02_encode_s_j4
      refine WP.gn hi fun x' (hx' : l[i]? = some x') => ?_
      rw [hx] at hx'; cases hx'
      refine WP.bd (hrc x hxm ⟨hwl x hxm, r7 x hxm, by simp only [List.length_nil]; omega⟩) (WP.ck (by rw [hacc]; simp only [List.length_cons]; omega) (WP.ckI (by omega) (WP.ret ?_)))
      rw [encL_take hx, hacc]; simp
theorem rencode_eq : ∀ (fu : Nat) (v : Val), hgt v ≤ fu → Wr [] v → g_ref02_encode fu v = some (enc v)
  | 0, .mk k n s l ks, h, _ => by simp [hgt] at h
  | fu + 1, .mk k n s l ks, h, hw => by
    simp only [hgt, Nat.add_le_add_iff_right, hgtL_le] at h
    exact WP.eq (rencode_s hw fun x hx hwx => rencode_eq fu x (h x hx) hwx)
/-- Values that can be handled: not too high, not too large. -/
def Ok (v : Val) : Prop := rng v ∧ hgt v ≤ 60 ∧ cnt v ≤ 50000000000
def encR (v : Val) : List UInt8 × Int := if chk v = 0 then (enc v, 0) else ([], chk v)
theorem chk0 {v : Val} : chk v = 0 ↔ wf v = true ∧ dep v ≤ 16 := by
  unfold chk
  by_cases hw : wf v = true
  · rw [if_pos hw]
    by_cases hd : 16 < dep v
    · rw [if_pos hd]; simp [hw]; omega
    · rw [if_neg hd]; simp [hw]; omega
  · rw [if_neg hw]; simp [hw]
theorem rEncode_eq {v : Val} (h : Ok v) : g_ref02_Encode v = some (encR v) := by
  obtain ⟨h1, h2, h3⟩ := h
  refine WP.eq ?_
  unfold g_ref02_Encode encR
  refine WP.bd (rCheck_eq h2 h1) (WP.iteN (fun h => WP.ret (by rw [if_neg h])) (fun h => ?_))
  rw [if_pos h]
  refine WP.bd (rencode_eq 60 v h2 ⟨(chk0.1 h).1, h1, by simp only [List.length_nil]; omega⟩) (WP.ret rfl)
theorem Encode_eq {v : Val} (h : Ok v) : g_codec_Encode v = some (.inl (encR v)) := by
  obtain ⟨h1, h2, h3⟩ := h
  refine WP.eq ?_
  unfold g_codec_Encode encR
  refine WP.bd (check_eq h2 h1) (WP.iteN (fun h => WP.ret (by rw [if_neg h])) (fun h => ?_))
  rw [if_pos h]
  have hw := (chk0.1 h).1
  have hk := wf_k hw
  have hWr : Wr [] v := ⟨hw, h1, by simp only [List.length_nil]; omega⟩
  have hwe := writer_eq 60 v [] h2 hWr
  refine WP.iteE (fun h => by omega) (fun _ => WP.iteE (fun hk1 => ?_) (fun _ => WP.iteE (fun hk2 => ?_) (fun _ => WP.iteE (fun hk3 => ?_) (fun _ => WP.ck (by omega) ?_))))
  · refine WP.bdP (w1_eq hk1 ?_ (by simp)) (WP.ret rfl)
    cases v with
    | mk k n s l ks => simp only [rng] at h1; exact h1.2.1
  · refine WP.bdP (w2_eq hk2 ?_ (by simp)) (WP.ret rfl)
    cases v with
    | mk k n s l ks => have := s_cnt k n s l ks; simp only [Val.s]; omega
  · exact WP.bdP (hwe.1 hk3) (WP.ret rfl)
  · exact WP.bdP (hwe.2 (by omega)) (WP.ret rfl)
end Go.Proofs.YtimalbkjflfdoaaDoor

/-
  Encodings of chapter 2 are prefix-free; numerals are read back. Conditions: those of each theorem.
-/
set_option linter.unusedVariables false
set_option linter.unusedSimpArgs false
set_option maxRecDepth 100000
namespace Go.Proofs.YtimalbkjflfdoaaDoor
open Go.DL
theorem parseM_append (M : Nat) : ∀ (a b : List UInt8) (acc x : Nat), Lib.parseUintM M acc a = .ok x → Lib.parseUintM M acc (a ++ b) = Lib.parseUintM M x b
  | [], b, acc, x, h => by
    simp only [Lib.parseUintM] at h
    injection h with h
    subst h; rfl
  | c :: a, b, acc, x, h => by
    simp only [Lib.parseUintM, List.cons_append] at h ⊢
    split at h
    · rename_i h1
      rw [if_pos h1]
      split at h
      · cases h
      · rename_i h2
        rw [if_neg h2]
        split at h
        · cases h
        · rename_i h3
          rw [if_neg h3]
          exact parseM_append M a b _ x h
    · cases h
theorem digit_toNat {d : Nat} (h : d < 10) : (UInt8.ofNat (48 + d)).toNat = 48 + d := by
  rw [UInt8.toNat_ofNat']; omega
theorem parseM_digits : ∀ (u : Nat), u ≤ 18446744073709551615 → Lib.parseUintM 18446744073709551615 0 (Lib.decDigits u) = .ok u := by
  intro u
  induction u using Nat.strongRecOn with
  | _ u ih =>
    intro hu
    by_cases h : u < 10
    · rw [Lib.decDigits_one h]
      simp only [Lib.parseUintM, digit_toNat h]
      rw [if_pos (by omega), if_neg (by omega), if_neg (by omega)]
      simp
    · rw [Lib.decDigits.eq_1 u, dif_neg h, parseM_append _ _ _ _ _ (ih (u / 10) (by omega) (by omega))]
      simp only [Lib.parseUintM, digit_toNat (show u % 10 < 10 by omega)]
      rw [if_pos (by omega), if_neg (by omega), if_neg (by omega)]
      congr 1; omega
theorem decDigits_ne (u : Nat) : Lib.decDigits u ≠ [] := fun h => by
  have := Lib.decDigits_length u
  rw [h] at this
  have := Lib.nDigits_pos u
  simp at *; omega
theorem decDigits_mem : ∀ (u : Nat), ∀ c ∈ Lib.decDigits u, 48 ≤ c.toNat ∧ c.toNat ≤ 57 := by
  intro u
  induction u using Nat.strongRecOn with
  | _ u ih =>
    intro c hc
    by_cases h : u < 10
    · rw [Lib.decDigits_one h] at hc
      simp only [List.mem_singleton] at hc
      subst hc
      rw [digit_toNat h]; omega
    · rw [Lib.decDigits.eq_1 u, dif_neg h, List.mem_append] at hc
      rcases hc with hc | hc
      · exact ih (u / 10) (by omega) c hc
      · simp only [List.mem_singleton] at hc
        subst hc
        rw [digit_toNat (by omega)]; omega
theorem decDigits_cons (u : Nat) : ∃ c r, Lib.decDigits u = c :: r ∧ 48 ≤ c.toNat ∧ c.toNat ≤ 57 := by
  cases h : Lib.decDigits u with
  | nil => exact absurd h (decDigits_ne u)
  | cons c r => exact ⟨c, r, rfl, decDigits_mem u c (by rw [h]; exact List.mem_cons_self)⟩
theorem parseU_digits {u : Nat} (hu : u ≤ 18446744073709551615) : Lib.parseUintB 64 (Lib.decDigits u) = .ok u := by
  unfold Lib.parseUintB
  rw [if_neg (decDigits_ne u)]
  exact parseM_digits u hu
theorem parse_itoa {n : Int} (h : i64 n) : parseO (Lib.itoa n) = some n := by
  obtain ⟨h1, h2⟩ := h
  unfold parseO Lib.itoa
  by_cases hn : n < 0
  · rw [if_pos hn, Lib.parseIntB_minus, parseU_digits (by omega)]
    simp only [Lib.signedC]
    rw [if_neg (by omega)]
    simp only [Option.some.injEq]; omega
  · rw [if_neg hn]
    obtain ⟨c, r, hc, hc1, hc2⟩ := decDigits_cons n.toNat
    rw [hc, Lib.parseIntB_plain 64 c r (by omega) (by omega), ← hc, parseU_digits (by omega)]
    simp only [Lib.signlessC]
    rw [if_neg (by omega)]
    simp only [Option.some.injEq]; omega
theorem parse_i64 {s : List UInt8} {n : Int} (h : parseO s = some n) : i64 n := by
  unfold parseO at h
  split at h
  · rename_i v hv
    cases h
    cases s with
    | nil => simp [Lib.parseIntB] at hv
    | cons c r =>
      by_cases h43 : c.toNat = 43
      · have : c = 43 := UInt8.toNat_inj.1 h43
        subst this
        rw [Lib.parseIntB_plus] at hv
        cases hp : Lib.parseUintB 64 r <;> rw [hp] at hv <;> simp only [Lib.signlessC] at hv
        · split at hv
          · cases hv
          · injection hv with hv; exact ⟨by omega, by omega⟩
        all_goals cases hv
      · by_cases h45 : c.toNat = 45
        · have : c = 45 := UInt8.toNat_inj.1 h45
          subst this
          rw [Lib.parseIntB_minus] at hv
          cases hp : Lib.parseUintB 64 r <;> rw [hp] at hv <;> simp only [Lib.signedC] at hv
          · split at hv
            · cases hv
            · injection hv with hv; exact ⟨by omega, by omega⟩
          all_goals cases hv
        · rw [Lib.parseIntB_plain 64 c r h43 h45] at hv
          cases hp : Lib.parseUintB 64 (c :: r) <;> rw [hp] at hv <;> simp only [Lib.signlessC] at hv
          · split at hv
            · cases hv
            · injection hv with hv; exact ⟨by omega, by omega⟩
          all_goals cases hv
  · cases h
theorem itoa_inj {m n : Int} (hm : i64 m) (hn : i64 n) (h : Lib.itoa m = Lib.itoa n) : m = n := by
  have h1 := parse_itoa hm
  rw [h, parse_itoa hn] at h1
  exact (Option.some.inj h1).symm
theorem itoa_mem {n : Int} {c : UInt8} (h : c ∈ Lib.itoa n) : c.toNat = 45 ∨ 48 ≤ c.toNat ∧ c.toNat ≤ 57 := by
  unfold Lib.itoa at h
  split at h
  · rcases List.mem_cons.1 h with rfl | h
    · exact .inl rfl
    · exact .inr (decDigits_mem _ c h)
  · exact .inr (decDigits_mem _ c h)
theorem itoa_len20 {n : Int} (h : i64 n) : (Lib.itoa n).length ≤ 20 := by
  obtain ⟨h1, h2⟩ := h
  have key : ∀ k u, u < 10 ^ (k + 1) → Lib.nDigits u ≤ k + 1 := by
    intro k
    induction k with
    | zero => intro u h; rw [Lib.nDigits_small (by simpa using h)]; omega
    | succ k ih =>
      intro u h
      by_cases hs : u < 10
      · rw [Lib.nDigits_small hs]; omega
      · rw [Lib.nDigits_big hs]
        have := ih (u / 10) (by rw [Nat.pow_succ] at h; omega)
        omega
  have k19 : ∀ u, u < 10000000000000000000 → (Lib.decDigits u).length ≤ 19 := fun u hu => by rw [Lib.decDigits_length]; exact key 18 u hu
  unfold Lib.itoa
  split
  · have := k19 n.natAbs (by omega)
    simp only [List.length_cons]; omega
  · have := k19 n.toNat (by omega)
    omega
/-- Where a byte that is not in the beginning comes first. -/
theorem split_at {c : UInt8} : ∀ {a a' b b' : List UInt8}, c ∉ a → c ∉ a' → a ++ c :: b = a' ++ c :: b' → a = a' ∧ b = b'
  | [], [], b, b', _, _, h => by simpa using h
  | [], x :: a', b, b', _, h2, h => by
    simp only [List.nil_append, List.cons_append, List.cons.injEq] at h
    exact absurd (h.1 ▸ List.mem_cons_self) h2
  | x :: a, [], b, b', h1, _, h => by
    simp only [List.nil_append, List.cons_append, List.cons.injEq] at h
    exact absurd (h.1 ▸ List.mem_cons_self) h1
  | x :: a, y :: a', b, b', h1, h2, h => by
    simp only [List.cons_append, List.cons.injEq] at h
    obtain ⟨rfl, h⟩ := h
    obtain ⟨rfl, rfl⟩ := split_at (fun hh => h1 (List.mem_cons_of_mem _ hh)) (fun hh => h2 (List.mem_cons_of_mem _ hh)) h
    exact ⟨rfl, rfl⟩
theorem idxOf_split {c : UInt8} {a b : List UInt8} (h : c ∉ a) : (a ++ c :: b).idxOf c = a.length := by
  induction a with
  | nil => simp
  | cons x a ih =>
    have hne : x ≠ c := fun e => h (e ▸ List.mem_cons_self)
    rw [List.cons_append, List.idxOf_cons, beq_eq_false_iff_ne.2 hne, ih (fun hh => h (List.mem_cons_of_mem _ hh))]
    rfl
theorem itoa_split {c : UInt8} (hc : 58 ≤ c.toNat) {m n : Int} {a b : List UInt8} (hm : i64 m) (hn : i64 n) (h : Lib.itoa m ++ c :: a = Lib.itoa n ++ c :: b) : m = n ∧ a = b := by
  have no : ∀ n : Int, c ∉ Lib.itoa n := fun n hh => by have := itoa_mem hh; omega
  obtain ⟨h1, h2⟩ := split_at (no m) (no n) h
  exact ⟨itoa_inj hm hn h1, h2⟩
theorem txt_itoa (s : List UInt8) : txt s = Lib.itoa ((s.length : Nat) : Int) ++ 58 :: s := by rw [Lib.itoa_nonneg]; rfl
theorem txt_split {s t a b : List UInt8} (hs : s.length ≤ 140737488355328) (ht : t.length ≤ 140737488355328) (h : txt s ++ a = txt t ++ b) : s = t ∧ a = b := by
  rw [txt_itoa, txt_itoa] at h
  simp only [List.append_assoc, List.cons_append] at h
  obtain ⟨h1, h2⟩ := itoa_split (c := 58) (by decide) ⟨by omega, by omega⟩ ⟨by omega, by omega⟩ h
  have hl : s.length = t.length := by omega
  exact List.append_inj h2 hl
/-- The first byte of an encoding. -/
theorem txt_first (s : List UInt8) : ∃ c r, txt s = c :: r ∧ 48 ≤ c.toNat ∧ c.toNat ≤ 57 := by
  obtain ⟨c, r, h, h1⟩ := decDigits_cons s.length
  exact ⟨c, r ++ 58 :: s, by rw [txt, h]; rfl, h1⟩
theorem enc_first {v : Val} (hw : wf v = true) : ∃ c r, enc v = c :: r ∧ ((v.k = 1 ∧ c = 105) ∨ (v.k = 2 ∧ 48 ≤ c.toNat ∧ c.toNat ≤ 57) ∨ (v.k = 3 ∧ c = 108) ∨ (v.k = 4 ∧ c = 100)) := by
  have hk := wf_k hw
  cases v with
  | mk k n s l ks =>
    simp only [Val.k] at hk ⊢
    rcases hk with rfl | rfl | rfl | rfl
    · exact ⟨105, Lib.itoa n ++ [101], by simp [enc], .inl ⟨rfl, rfl⟩⟩
    · obtain ⟨c, r, h, h1⟩ := txt_first s
      exact ⟨c, r, by simp [enc, h], .inr (.inl ⟨rfl, h1⟩)⟩
    · exact ⟨108, encL l ++ [101], by simp [enc], .inr (.inr (.inl ⟨rfl, rfl⟩))⟩
    · exact ⟨100, encD ks l ++ [101], by simp [enc], .inr (.inr (.inr ⟨rfl, rfl⟩))⟩
theorem first_ne {v : Val} (hw : wf v = true) {a b : List UInt8} (h : enc v ++ a = 101 :: b) : False := by
  obtain ⟨c, r, he, hc⟩ := enc_first hw
  rw [he, List.cons_append, List.cons.injEq] at h
  obtain ⟨rfl, _⟩ := h
  rcases hc with ⟨_, h⟩ | ⟨_, h, h2⟩ | ⟨_, h⟩ | ⟨_, h⟩
  · exact absurd h (by decide)
  · simp at h2
  · exact absurd h (by decide)
  · exact absurd h (by decide)
theorem txt_ne {s a b : List UInt8} (h : txt s ++ a = 101 :: b) : False := by
  obtain ⟨c, r, he, h1, h2⟩ := txt_first s
  rw [he, List.cons_append, List.cons.injEq] at h
  obtain ⟨rfl, _⟩ := h
  simp at h2
theorem encL_split : ∀ {l m : List Val} {a b : List UInt8}, (∀ x ∈ l, ∀ (y : Val) (a b : List UInt8), y ∈ m → enc x ++ a = enc y ++ b → x = y ∧ a = b) → (∀ x ∈ l, wf x = true) → (∀ x ∈ m, wf x = true) → encL l ++ 101 :: a = encL m ++ 101 :: b → l = m ∧ a = b
  | [], [], a, b, _, _, _, h => by simpa [encL] using h
  | [], y :: m, a, b, _, _, h3, h => by
    simp only [encL, List.nil_append, List.append_assoc] at h
    exact (first_ne (h3 y List.mem_cons_self) h.symm).elim
  | x :: l, [], a, b, _, h2, _, h => by
    simp only [encL, List.nil_append, List.append_assoc] at h
    exact (first_ne (h2 x List.mem_cons_self) h).elim
  | x :: l, y :: m, a, b, h1, h2, h3, h => by
    simp only [encL, List.append_assoc] at h
    obtain ⟨rfl, h4⟩ := h1 x List.mem_cons_self y _ _ List.mem_cons_self h
    obtain ⟨rfl, rfl⟩ := encL_split (fun p hp q a b hq => h1 p (List.mem_cons_of_mem _ hp) q a b (List.mem_cons_of_mem _ hq)) (fun p hp => h2 p (List.mem_cons_of_mem _ hp)) (fun p hp => h3 p (List.mem_cons_of_mem _ hp)) h4
    exact ⟨rfl, rfl⟩
theorem encD_split : ∀ {ks js : List (List UInt8)} {l m : List Val} {a b : List UInt8}, (∀ x ∈ l, ∀ (y : Val) (a b : List UInt8), y ∈ m → enc x ++ a = enc y ++ b → x = y ∧ a = b) → (∀ x ∈ l, wf x = true) → (∀ x ∈ m, wf x = true) → ks.length = l.length → js.length = m.length →
    (∀ k ∈ ks, k.length ≤ 140737488355328) → (∀ k ∈ js, k.length ≤ 140737488355328) → encD ks l ++ 101 :: a = encD js m ++ 101 :: b → ks = js ∧ l = m ∧ a = b
  | [], [], [], [], a, b, _, _, _, _, _, _, _, h => by simpa [encD] using h
  | ks, js, [], y :: m, a, b, _, _, h3, _, _, _, _, h => by
    simp only [encD, List.nil_append, List.append_assoc] at h
    exact (txt_ne h.symm).elim
  | ks, js, x :: l, [], a, b, _, h2, _, _, _, _, _, h => by
    simp only [encD, List.nil_append, List.append_assoc] at h
    exact (txt_ne h).elim
  | k :: ks, j :: js, x :: l, y :: m, a, b, h1, h2, h3, h4, h5, h6, h7, h => by
    simp only [encD, List.append_assoc, List.headD_cons, List.tail_cons] at h
    obtain ⟨e1, h8⟩ := txt_split (h6 k List.mem_cons_self) (h7 j List.mem_cons_self) h
    obtain ⟨e2, h9⟩ := h1 x List.mem_cons_self y _ _ List.mem_cons_self h8
    subst e1; subst e2
    obtain ⟨rfl, rfl, rfl⟩ := encD_split (fun p hp q a b hq => h1 p (List.mem_cons_of_mem _ hp) q a b (List.mem_cons_of_mem _ hq)) (fun p hp => h2 p (List.mem_cons_of_mem _ hp)) (fun p hp => h3 p (List.mem_cons_of_mem _ hp)) (by simpa using h4) (by simpa using h5) (fun q hq => h6 q (List.mem_cons_of_mem _ hq)) (fun q hq => h7 q (List.mem_cons_of_mem _ hq)) h9
    exact ⟨rfl, rfl, rfl⟩
  | [], _ :: _, [], [], _, _, _, _, _, _, h5, _, _, _ => by simp at h5
  | _ :: _, _, [], [], _, _, _, _, _, h4, _, _, _, _ => by simp at h4
  | [], _, _ :: _, _ :: _, _, _, _, _, _, h4, _, _, _, _ => by simp at h4
  | _ :: _, [], _ :: _, _ :: _, _, _, _, _, _, _, h5, _, _, _ => by simp at h5
theorem wf3 {n : Int} {s : List UInt8} {l : List Val} {ks : List (List UInt8)} (h : wf (.mk 3 n s l ks) = true) : n = 0 ∧ s = [] ∧ ks = [] ∧ ∀ x ∈ l, wf x = true := by
  simp (config := { decide := true }) [wf, wfL_iff] at h
  exact ⟨h.1.1.1, h.1.1.2, h.1.2, h.2⟩
theorem wf4 {n : Int} {s : List UInt8} {l : List Val} {ks : List (List UInt8)} (h : wf (.mk 4 n s l ks) = true) : n = 0 ∧ s = [] ∧ ks.length = l.length ∧ incr ks = true ∧ ∀ x ∈ l, wf x = true := by
  simp (config := { decide := true }) [wf, wfL_iff] at h
  exact ⟨h.1.1.1.1, h.1.1.1.2, h.1.1.2, h.1.2, h.2⟩
theorem wf1 {n : Int} {s : List UInt8} {l : List Val} {ks : List (List UInt8)} (h : wf (.mk 1 n s l ks) = true) : s = [] ∧ l = [] ∧ ks = [] := by
  simp (config := { decide := true }) [wf] at h
  exact ⟨h.1.1, h.1.2, h.2⟩
theorem wf2 {n : Int} {s : List UInt8} {l : List Val} {ks : List (List UInt8)} (h : wf (.mk 2 n s l ks) = true) : n = 0 ∧ l = [] ∧ ks = [] := by
  simp (config := { decide := true }) [wf] at h
  exact ⟨h.1.1, h.1.2, h.2⟩
/-- No encoding is the beginning of another one. -/
theorem enc_split {v : Val} : ∀ {w : Val} {a b : List UInt8}, rng v → rng w → wf v = true → wf w = true → enc v ++ a = enc w ++ b → v = w ∧ a = b := by
  induction v using Val.ind with
  | h k n s l ks ih =>
    intro w a b hv hw h1 h2 h
    obtain ⟨c, r, e1, c1⟩ := enc_first h1
    obtain ⟨c', r', e2, c2⟩ := enc_first h2
    have hcc : c = c' := by
      rw [e1, e2, List.cons_append, List.cons_append, List.cons.injEq] at h
      exact h.1
    subst hcc
    cases w with
    | mk k' n' s' l' ks' =>
      simp only [Val.k] at c1 c2
      simp only [rng, rngL_iff] at hv hw
      obtain ⟨r1, r2, r3, r4, r5, r6, r7⟩ := hv
      obtain ⟨q1, q2, q3, q4, q5, q6, q7⟩ := hw
      rcases c1 with ⟨rfl, rfl⟩ | ⟨rfl, d1, d2⟩ | ⟨rfl, rfl⟩ | ⟨rfl, rfl⟩
      · have hk : k' = 1 := by
          rcases c2 with ⟨h, _⟩ | ⟨_, _, h⟩ | ⟨_, h⟩ | ⟨_, h⟩
          · exact h
          · simp at h
          · exact absurd h (by decide)
          · exact absurd h (by decide)
        subst hk
        obtain ⟨rfl, rfl, rfl⟩ := wf1 h1
        obtain ⟨rfl, rfl, rfl⟩ := wf1 h2
        simp only [enc, if_true, List.cons_append, List.cons.injEq, true_and, List.append_assoc, List.nil_append] at h
        obtain ⟨rfl, rfl⟩ := itoa_split (c := 101) (by decide) r2 q2 h
        exact ⟨rfl, rfl⟩
      · have hk : k' = 2 := by
          rcases c2 with ⟨_, h⟩ | ⟨h, _⟩ | ⟨_, h⟩ | ⟨_, h⟩
          · subst h; simp at d2
          · exact h
          · subst h; simp at d2
          · subst h; simp at d2
        subst hk
        obtain ⟨rfl, rfl, rfl⟩ := wf2 h1
        obtain ⟨rfl, rfl, rfl⟩ := wf2 h2
        simp (config := { decide := true }) only [enc, if_true, if_false] at h
        obtain ⟨rfl, rfl⟩ := txt_split r3 q3 h
        exact ⟨rfl, rfl⟩
      · have hk : k' = 3 := by
          rcases c2 with ⟨_, h⟩ | ⟨_, _, h⟩ | ⟨h, _⟩ | ⟨_, h⟩
          · exact absurd h (by decide)
          · simp at h
          · exact h
          · exact absurd h (by decide)
        subst hk
        obtain ⟨rfl, rfl, rfl, w1⟩ := wf3 h1
        obtain ⟨rfl, rfl, rfl, w2⟩ := wf3 h2
        simp (config := { decide := true }) only [enc, if_true, if_false, List.cons_append, List.cons.injEq, true_and, List.append_assoc, List.nil_append] at h
        obtain ⟨rfl, rfl⟩ := encL_split (fun x hx y a b hy he => ih x hx (r7 x hx) (q7 y hy) (w1 x hx) (w2 y hy) he) w1 w2 h
        exact ⟨rfl, rfl⟩
      · have hk : k' = 4 := by
          rcases c2 with ⟨_, h⟩ | ⟨_, _, h⟩ | ⟨_, h⟩ | ⟨h, _⟩
          · exact absurd h (by decide)
          · simp at h
          · exact absurd h (by decide)
          · exact h
        subst hk
        obtain ⟨rfl, rfl, g1, _, w1⟩ := wf4 h1
        obtain ⟨rfl, rfl, g2, _, w2⟩ := wf4 h2
        simp (config := { decide := true }) only [enc, if_true, if_false, List.cons_append, List.cons.injEq, true_and, List.append_assoc, List.nil_append] at h
        obtain ⟨rfl, rfl, rfl⟩ := encD_split (fun x hx y a b hy he => ih x hx (r7 x hx) (q7 y hy) (w1 x hx) (w2 y hy) he) w1 w2 g1 g2 r6 q6 h
        exact ⟨rfl, rfl⟩
end Go.Proofs.YtimalbkjflfdoaaDoor

/-
  Facts on encodings of chapter 2: bounds that come of their length; beginnings of lists. Conditions: those of each theorem.
-/
set_option linter.unusedVariables false
set_option linter.unusedSimpArgs false
set_option maxRecDepth 100000
namespace Go.Proofs.YtimalbkjflfdoaaDoor
open Go.DL
mutual
def ints : Val → Prop
  | .mk _ n _ l _ => i64 n ∧ intsL l
def intsL : List Val → Prop
  | [] => True
  | v :: l => ints v ∧ intsL l
end
theorem intsL_iff {l : List Val} : intsL l ↔ ∀ x ∈ l, ints x := by
  induction l with
  | nil => simp [intsL]
  | cons v l ih => simp [intsL, ih]
theorem ints_rng {v : Val} (h : rng v) : ints v := by
  induction v using Val.ind with
  | h k n s l ks ih =>
    simp only [rng, rngL_iff] at h
    simp only [ints, intsL_iff]
    exact ⟨h.2.1, fun x hx => ih x hx (h.2.2.2.2.2.2 x hx)⟩
/-- A value within d lists. -/
def good (d : Nat) (v : Val) : Prop := wf v = true ∧ ints v ∧ dep v + d ≤ 16
theorem enc_pos {v : Val} (h : wf v = true) : 1 ≤ (enc v).length := by
  obtain ⟨c, r, e, _⟩ := enc_first h
  rw [e]; simp
theorem txt_ge (s : List UInt8) : s.length + 2 ≤ (txt s).length := by
  obtain ⟨c, r, e, _⟩ := decDigits_cons s.length
  simp only [txt, e, List.length_append, List.length_cons]; omega
theorem encL_ge : ∀ {l : List Val}, (∀ x ∈ l, wf x = true) → l.length ≤ (encL l).length
  | [], _ => by simp
  | v :: l, h => by
    have h1 := enc_pos (h v List.mem_cons_self)
    have h2 := encL_ge fun x hx => h x (List.mem_cons_of_mem _ hx)
    simp only [encL, List.length_append, List.length_cons]; omega
theorem encL_mem : ∀ {l : List Val} {x : Val}, x ∈ l → (enc x).length ≤ (encL l).length
  | v :: l, x, h => by
    simp only [encL, List.length_append]
    rcases List.mem_cons.1 h with rfl | h
    · omega
    · have := encL_mem h; omega
theorem encD_mem : ∀ {ks : List (List UInt8)} {l : List Val} {x : Val}, x ∈ l → (enc x).length ≤ (encD ks l).length
  | ks, v :: l, x, h => by
    simp only [encD, List.length_append]
    rcases List.mem_cons.1 h with rfl | h
    · omega
    · have := encD_mem (ks := ks.tail) h; omega
theorem encD_key : ∀ {ks : List (List UInt8)} {l : List Val} {k : List UInt8}, ks.length = l.length → k ∈ ks → k.length ≤ (encD ks l).length
  | q :: ks, [], k, h, _ => by simp at h
  | q :: ks, v :: l, k, h, hk => by
    simp only [encD, List.length_append, List.headD_cons, List.tail_cons]
    rcases List.mem_cons.1 hk with rfl | hk
    · have := txt_ge k; omega
    · have := encD_key (l := l) (by simpa using h) hk; omega
theorem encD_ge : ∀ {ks : List (List UInt8)} {l : List Val}, l.length ≤ (encD ks l).length
  | _, [] => by simp
  | ks, v :: l => by
    have h1 := txt_ge (ks.headD [])
    have h2 := encD_ge (ks := ks.tail) (l := l)
    simp only [encD, List.length_append, List.length_cons]; omega
theorem rng_of {v : Val} (hw : wf v = true) (hi : ints v) (hl : (enc v).length ≤ 140737488355328) : rng v := by
  induction v using Val.ind with
  | h k n s l ks ih =>
    simp only [ints, intsL_iff] at hi
    have hk := wf_k hw
    simp only [Val.k] at hk
    simp only [rng, rngL_iff]
    rcases hk with rfl | rfl | rfl | rfl
    · obtain ⟨rfl, rfl, rfl⟩ := wf1 hw
      refine ⟨⟨by omega, by omega⟩, hi.1, by simp, by simp, by simp, by simp, by simp⟩
    · obtain ⟨rfl, rfl, rfl⟩ := wf2 hw
      simp (config := { decide := true }) only [enc, if_true, if_false] at hl
      have := txt_ge s
      refine ⟨⟨by omega, by omega⟩, hi.1, by omega, by simp, by simp, by simp, by simp⟩
    · obtain ⟨rfl, rfl, rfl, w⟩ := wf3 hw
      simp (config := { decide := true }) only [enc, if_true, if_false, List.length_cons, List.length_append, List.length_nil] at hl
      have := encL_ge w
      refine ⟨⟨by omega, by omega⟩, hi.1, by simp, by omega, by simp, by simp, fun x hx => ih x hx (w x hx) (hi.2 x hx) ?_⟩
      have := encL_mem hx; omega
    · obtain ⟨rfl, rfl, g, _, w⟩ := wf4 hw
      simp (config := { decide := true }) only [enc, if_true, if_false, List.length_cons, List.length_append, List.length_nil] at hl
      have := encD_ge (ks := ks) (l := l)
      refine ⟨⟨by omega, by omega⟩, hi.1, by simp, by omega, by omega, fun k hk => ?_, fun x hx => ih x hx (w x hx) (hi.2 x hx) ?_⟩
      · have := encD_key g hk; omega
      · have := encD_mem (ks := ks) hx; omega
theorem cnt_le {v : Val} (hw : wf v = true) : cnt v ≤ (enc v).length := by
  induction v using Val.ind with
  | h k n s l ks ih =>
    have hk := wf_k hw
    simp only [Val.k] at hk
    rcases hk with rfl | rfl | rfl | rfl
    · obtain ⟨rfl, rfl, rfl⟩ := wf1 hw
      simp [cnt, enc, cntL]
    · obtain ⟨rfl, rfl, rfl⟩ := wf2 hw
      have := txt_ge s
      simp (config := { decide := true }) only [enc, if_true, if_false, cnt, cntL, List.map_nil, List.sum_nil, List.length_nil]
      omega
    · obtain ⟨rfl, rfl, rfl, w⟩ := wf3 hw
      have key : ∀ l : List Val, (∀ x ∈ l, cnt x ≤ (enc x).length) → cntL l ≤ (encL l).length := by
        intro l
        induction l with
        | nil => simp [cntL]
        | cons v l ihl =>
          intro h
          have h1 := h v List.mem_cons_self
          have h2 := ihl fun x hx => h x (List.mem_cons_of_mem _ hx)
          simp only [cntL, encL, List.length_append]; omega
      have := key l fun x hx => ih x hx (w x hx)
      simp (config := { decide := true }) only [enc, if_true, if_false, cnt, List.map_nil, List.sum_nil, List.length_nil, List.length_cons, List.length_append]
      omega
    · obtain ⟨rfl, rfl, g, _, w⟩ := wf4 hw
      have key : ∀ (l : List Val) (ks : List (List UInt8)), ks.length = l.length → (∀ x ∈ l, cnt x ≤ (enc x).length) → ks.length + keyS ks + cntL l ≤ (encD ks l).length := by
        intro l
        induction l with
        | nil => intro ks hk _; cases ks with
          | nil => simp [cntL, keyS]
          | cons _ _ => simp at hk
        | cons v l ihl =>
          intro ks hk h
          cases ks with
          | nil => simp at hk
          | cons k ks =>
            have h1 := h v List.mem_cons_self
            have h2 := ihl ks (by simpa using hk) fun x hx => h x (List.mem_cons_of_mem _ hx)
            have h3 := txt_ge k
            simp only [cntL, encD, List.length_append, List.headD_cons, List.tail_cons, keyS, List.map_cons, List.sum_cons, List.length_cons] at *
            omega
      have := key l ks g fun x hx => ih x hx (w x hx)
      simp only [keyS] at this
      simp (config := { decide := true }) only [enc, if_true, if_false, cnt, List.length_nil, List.length_cons, List.length_append]
      omega
theorem hgt_dep {v : Val} (hw : wf v = true) : hgt v ≤ dep v + 1 := by
  induction v using Val.ind with
  | h k n s l ks ih =>
    have hk := wf_k hw
    simp only [Val.k] at hk
    have sub : (∀ x ∈ l, wf x = true) → hgtL l ≤ depL l + 1 := fun w => hgtL_le.2 fun x hx => by
      have h1 := ih x hx (w x hx)
      have h2 := depL_le.1 (Nat.le_refl (depL l)) x hx
      omega
    rcases hk with rfl | rfl | rfl | rfl
    · obtain ⟨rfl, rfl, rfl⟩ := wf1 hw; simp [hgt, hgtL]
    · obtain ⟨rfl, rfl, rfl⟩ := wf2 hw; simp [hgt, hgtL]
    · obtain ⟨rfl, rfl, rfl, w⟩ := wf3 hw
      have := sub w
      simp (config := { decide := true }) only [hgt, dep, if_false]; omega
    · obtain ⟨rfl, rfl, g, _, w⟩ := wf4 hw
      have := sub w
      simp (config := { decide := true }) only [hgt, dep, if_false]; omega
/-- A decoded value can be handled. -/
theorem good_ok {d : Nat} {v : Val} (h : good d v) (hl : (enc v).length ≤ 50000000000) : Ok v := by
  obtain ⟨h1, h2, h3⟩ := h
  have := hgt_dep h1
  have := cnt_le h1
  exact ⟨rng_of h1 h2 (by omega), by omega, by omega⟩
/-! ### beginnings -/
theorem encL_pre : ∀ {L l : List Val} {r a : List UInt8}, (∀ x ∈ L, wf x = true ∧ rng x) → (∀ x ∈ l, wf x = true ∧ rng x) → encL L ++ r = encL l ++ 101 :: a → ∃ l2, l = L ++ l2 ∧ r = encL l2 ++ 101 :: a
  | [], l, r, a, _, _, h => ⟨l, rfl, by simpa [encL] using h⟩
  | x :: L, [], r, a, h1, _, h => by
    simp only [encL, List.nil_append, List.append_assoc] at h
    exact (first_ne (h1 x List.mem_cons_self).1 h).elim
  | x :: L, y :: l, r, a, h1, h2, h => by
    simp only [encL, List.append_assoc] at h
    obtain ⟨e1, h3⟩ := enc_split (h1 x List.mem_cons_self).2 (h2 y List.mem_cons_self).2 (h1 x List.mem_cons_self).1 (h2 y List.mem_cons_self).1 h
    subst e1
    obtain ⟨l2, rfl, h4⟩ := encL_pre (fun p hp => h1 p (List.mem_cons_of_mem _ hp)) (fun p hp => h2 p (List.mem_cons_of_mem _ hp)) h3
    exact ⟨l2, rfl, h4⟩
theorem encD_pre : ∀ {K ks : List (List UInt8)} {L l : List Val} {r a : List UInt8}, (∀ x ∈ L, wf x = true ∧ rng x) → (∀ x ∈ l, wf x = true ∧ rng x) → K.length = L.length → ks.length = l.length → (∀ k ∈ K, k.length ≤ 140737488355328) → (∀ k ∈ ks, k.length ≤ 140737488355328) →
    encD K L ++ r = encD ks l ++ 101 :: a → ∃ ks2 l2, ks = K ++ ks2 ∧ l = L ++ l2 ∧ r = encD ks2 l2 ++ 101 :: a
  | [], ks, [], l, r, a, _, _, _, _, _, _, h => ⟨ks, l, rfl, rfl, by simpa [encD] using h⟩
  | _ :: _, _, [], _, _, _, _, _, h, _, _, _, _ => by simp at h
  | [], _, _ :: _, _, _, _, _, _, h, _, _, _, _ => by simp at h
  | k :: K, ks, x :: L, [], r, a, h1, _, _, _, _, _, h => by
    simp only [encD, List.nil_append, List.append_assoc] at h
    exact (txt_ne h).elim
  | _, [], _, _ :: _, _, _, _, _, _, h, _, _, _ => by simp at h
  | k :: K, j :: ks, x :: L, y :: l, r, a, h1, h2, h3, h4, h5, h6, h => by
    simp only [encD, List.append_assoc, List.headD_cons, List.tail_cons] at h
    obtain ⟨e0, h7⟩ := txt_split (h5 k List.mem_cons_self) (h6 j List.mem_cons_self) h
    obtain ⟨e1, h8⟩ := enc_split (h1 x List.mem_cons_self).2 (h2 y List.mem_cons_self).2 (h1 x List.mem_cons_self).1 (h2 y List.mem_cons_self).1 h7
    subst e0; subst e1
    obtain ⟨ks2, l2, rfl, rfl, h9⟩ := encD_pre (fun p hp => h1 p (List.mem_cons_of_mem _ hp)) (fun p hp => h2 p (List.mem_cons_of_mem _ hp)) (by simpa using h3) (by simpa using h4) (fun q hq => h5 q (List.mem_cons_of_mem _ hq)) (fun q hq => h6 q (List.mem_cons_of_mem _ hq)) h8
    exact ⟨ks2, l2, rfl, rfl, h9⟩
theorem incr_append_one : ∀ {l : List (List UInt8)} {x : List UInt8}, incr l = true → (∀ y, l.getLast? = some y → Op.bytesLess y x = true) → incr (l ++ [x]) = true
  | [], x, _, _ => rfl
  | [a], x, _, h => by simp [incr, h a rfl]
  | a :: b :: l, x, h1, h2 => by
    simp only [incr, Bool.and_eq_true, List.cons_append] at h1 ⊢
    exact ⟨h1.1, incr_append_one (l := b :: l) h1.2 fun y hy => h2 y (by rw [List.getLast?_cons_cons]; exact hy)⟩
theorem incr_last : ∀ {l : List (List UInt8)} {x y : List UInt8} {r : List (List UInt8)}, incr (l ++ x :: r) = true → l.getLast? = some y → Op.bytesLess y x = true
  | [], x, y, r, _, h => by simp at h
  | [a], x, y, r, h1, h => by
    simp at h; subst h
    simp only [List.cons_append, List.nil_append, incr, Bool.and_eq_true] at h1
    exact h1.1
  | a :: b :: l, x, y, r, h1, h => by
    simp only [List.cons_append, incr, Bool.and_eq_true] at h1
    exact incr_last (l := b :: l) h1.2 (by rw [List.getLast?_cons_cons] at h; exact h)
end Go.Proofs.YtimalbkjflfdoaaDoor

/-
  The reader of chapter 2 in plain Lean: what reader.value reads. Conditions: those of each theorem.
-/
set_option linter.unusedVariables false
set_option linter.unusedSimpArgs false
set_option maxRecDepth 100000
namespace Go.Proofs.YtimalbkjflfdoaaDoor
open Go.DL
theorem indexB_eq {R : List UInt8} {c : UInt8} {C : Int} (hC : C = ((c.toNat : Nat) : Int)) (hR : R.length ≤ 140737488355328) : g_slices_Index_Lbyte_byte R C = some (if R.idxOf c < R.length then ((R.idxOf c : Nat) : Int) else -1) := by
  refine WP.eq ?_
  unfold g_slices_Index_Lbyte_byte
  have at_ : ∀ {l : List UInt8} {i : Nat}, (∀ x ∈ l.take i, x ≠ c) → l[i]? = some c → l.idxOf c = i := by
    intro l
    induction l with
    | nil => intro i _ h; simp at h
    | cons a l ih =>
      intro i h1 h2
      cases i with
      | zero => simp at h2; subst h2; simp
      | succ i =>
        have hne : a ≠ c := h1 a (by simp)
        rw [List.idxOf_cons, beq_eq_false_iff_ne.2 hne, ih (i := i) (fun x hx => h1 x (by simp [hx])) (by simpa using h2)]; rfl
  have none_ : ∀ {l : List UInt8}, (∀ x ∈ l, x ≠ c) → l.idxOf c = l.length := by
    intro l
    induction l with
    | nil => intro _; rfl
    | cons a l ih =>
      intro h1
      have hne : a ≠ c := h1 a (by simp)
      rw [List.idxOf_cons, beq_eq_false_iff_ne.2 hne, ih (fun x hx => h1 x (by simp [hx]))]; rfl
  refine WP.loop (fun i => i ≤ R.length ∧ ∀ x ∈ R.take i, x ≠ c) (fun i => R.length - i) ?_ ⟨by omega, by simp⟩
  rintro i ⟨g1, g2⟩
  simp only [g_slices_Index_Lbyte_byte_l2]
  refine WP.iteD (fun hi => ?_) (fun hi => WP.up (WP.ret ?_))
  · refine WP.gn (by omega) fun x hx => WP.iteE (fun e => WP.up (WP.ret ?_)) (fun e => WP.ckI (by omega) (WP.ret ⟨⟨by omega, ?_⟩, by show R.length - (i + 1) < R.length - i; omega⟩))
    · have : x = c := UInt8.toNat_inj.1 (by omega)
      subst this
      show ((i : Nat) : Int) = _
      rw [at_ g2 hx, if_pos (by omega)]
    · intro y hy
      rw [List.take_add_one, hx] at hy
      rcases List.mem_append.1 hy with hy | hy
      · exact g2 y hy
      · simp at hy; subst hy; exact fun h => e (by rw [h, hC])
  · show (-1 : Int) = _
    have e : i = R.length := by omega
    rw [e, List.take_length] at g2
    rw [none_ g2, if_neg (by omega)]
theorem idx_split {R : List UInt8} {c : UInt8} (h : R.idxOf c < R.length) : R = R.take (R.idxOf c) ++ c :: R.drop (R.idxOf c + 1) := by
  have h1 : R[R.idxOf c]'h = c := List.getElem_idxOf h
  conv => lhs; rw [← List.take_append_drop (R.idxOf c) R, List.drop_eq_getElem_cons h, h1]
theorem onP_some' {α ρ : Type} {x : Option α} {v : α} {f : α → Option ρ} {z : Option ρ} (h : x = some v) : onP x f z = f v := by rw [h]; rfl
theorem onP_none' {α ρ : Type} {x : Option α} {f : α → Option ρ} {z : Option ρ} (h : x = none) : onP x f z = z := by rw [h]; rfl
/-- A number up to an end. -/
theorem WP.num {ρ : Type} {Q : ρ → Prop} {R : List UInt8} {c : UInt8} {C : Int} (hC : C = ((c.toNat : Nat) : Int)) (hc : 58 ≤ c.toNat) (hR : R.length ≤ 70368744177664) {z1 z2 : Option ρ} {K : List UInt8 → List UInt8 → Int → Option ρ} {KZ : List UInt8 → List UInt8 → Option ρ}
    (hgood : ∀ n rest, i64 n → R = Lib.itoa n ++ c :: rest → WP (K (Lib.itoa n) rest n) Q)
    (hbad : (∀ n rest, i64 n → R ≠ Lib.itoa n ++ c :: rest) → WP z1 Q ∧ WP z2 Q ∧ (∀ s rest, WP (KZ s rest) Q) ∧ (∀ s rest n, i64 n → ¬ Lib.itoa n = s → WP (K s rest n) Q)) :
    WP (bd (g_slices_Index_Lbyte_byte R C) fun i => if (decide (i < 0)) = true then z1 else if (decide (i > 20)) = true then z2 else sb R none (some i) fun s => ckI (i + 1) <| sb R (some (i + 1)) none fun rest => ck (s.length ≤ 140737488355328) <| onP (parseO s) (fun n => K s rest n) (KZ s rest)) Q := by
  refine WP.bd (indexB_eq hC (by omega)) ?_
  by_cases hex : ∃ n rest, i64 n ∧ R = Lib.itoa n ++ c :: rest
  · obtain ⟨n, rest, hn, hr⟩ := hex
    have hno : c ∉ Lib.itoa n := fun hh => by have := itoa_mem hh; omega
    have hlen := itoa_len20 hn
    have hi : R.idxOf c = (Lib.itoa n).length := by rw [hr]; exact idxOf_split hno
    have hlt : R.idxOf c < R.length := by rw [hi, hr]; simp
    rw [if_pos hlt, hi]
    refine WP.iteD (fun h => by omega) (fun _ => WP.iteD (fun h => by omega) (fun _ => ?_))
    have hRl : (Lib.itoa n).length < R.length := by rw [← hi]; exact hlt
    refine WP.sb ⟨by simp, by simp, by simp; omega⟩ (WP.ckI (by omega) (WP.sb ⟨by simp; omega, by simp; omega, by simp⟩ ?_))
    have e1 : subList R none (some (((Lib.itoa n).length : Nat) : Int)) = Lib.itoa n := by
      show R.take _ = _
      rw [Int.toNat_natCast, hr, List.take_left]
    have e2 : subList R (some ((((Lib.itoa n).length : Nat) : Int) + 1)) none = rest := by
      show R.drop _ = _
      rw [show ((((Lib.itoa n).length : Nat) : Int) + 1).toNat = (Lib.itoa n).length + 1 by omega, hr]
      rw [show Lib.itoa n ++ c :: rest = (Lib.itoa n ++ [c]) ++ rest by simp]
      rw [show (Lib.itoa n).length + 1 = (Lib.itoa n ++ [c]).length by simp, List.drop_left]
    rw [e1, e2]
    refine WP.ck (by omega) ?_
    rw [onP_some' (parse_itoa hn)]
    exact hgood n rest hn hr
  · obtain ⟨b1, b2, b3, b4⟩ := hbad fun n rest hn hr => hex ⟨n, rest, hn, hr⟩
    by_cases hlt : R.idxOf c < R.length
    · rw [if_pos hlt]
      refine WP.iteD (fun h => b1) (fun _ => WP.iteD (fun h => b2) (fun _ => ?_))
      refine WP.sb ⟨by simp, by simp, by simp; omega⟩ (WP.ckI (by omega) (WP.sb ⟨by simp; omega, by simp; omega, by simp⟩ ?_))
      have e1 : subList R none (some ((R.idxOf c : Nat) : Int)) = R.take (R.idxOf c) := by show R.take _ = _; rw [Int.toNat_natCast]
      rw [e1]
      refine WP.ck (by simp; omega) ?_
      cases hp : parseO (R.take (R.idxOf c)) with
      | none => rw [onP_none' rfl]; exact b3 _ _
      | some n =>
        rw [onP_some' rfl]
        refine b4 _ _ n (parse_i64 hp) fun he => hex ⟨n, R.drop (R.idxOf c + 1), parse_i64 hp, ?_⟩
        rw [he]; exact idx_split hlt
    · rw [if_neg hlt]
      exact WP.iteD (fun h => b1) (fun h => by omega)
/-- What reader.value makes of bytes within d lists. -/
def VRes (d : Nat) (r : List UInt8) : (Val × Reader) ⊕ Unit → Prop
  | .inl y => good d y.1 ∧ r = enc y.1 ++ y.2.rest
  | .inr _ => ∀ v a, good d v → r ≠ enc v ++ a
def body (kd : Int) (ks : List (List UInt8)) (l : List Val) : List UInt8 := if kd = 4 then encD ks l else encL l
theorem enc_body {kd : Int} (hk : kd = 3 ∨ kd = 4) (ks : List (List UInt8)) (l : List Val) : enc (.mk kd 0 [] l ks) = (if kd = 4 then 100 else 108) :: (body kd ks l ++ [101]) := by
  rcases hk with rfl | rfl <;> simp [enc, body]
def KOk (kd : Int) (ks : List (List UInt8)) (l : List Val) : Prop := (kd = 4 → ks.length = l.length ∧ incr ks = true) ∧ (kd = 3 → ks = [])
theorem wf_body {kd : Int} (hk : kd = 3 ∨ kd = 4) {ks : List (List UInt8)} {l : List Val} (h : KOk kd ks l) (hw : ∀ x ∈ l, wf x = true) : wf (.mk kd 0 [] l ks) = true := by
  have := wfL_iff.2 hw
  rcases hk with rfl | rfl
  · have := h.2 rfl; simp_all [wf]
  · have := h.1 rfl; simp_all [wf]
theorem good_list {kd : Int} (hk : kd = 3 ∨ kd = 4) {ks : List (List UInt8)} {l : List Val} {d : Nat} (hd : d < 16) (h : KOk kd ks l) (hg : ∀ x ∈ l, good (d + 1) x) : good d (.mk kd 0 [] l ks) := by
  refine ⟨wf_body hk h fun x hx => (hg x hx).1, ?_, ?_⟩
  · simp only [ints, intsL_iff]; exact ⟨⟨by omega, by omega⟩, fun x hx => (hg x hx).2.1⟩
  · have : depL l ≤ 15 - d := depL_le.2 fun x hx => by have := (hg x hx).2.2; omega
    have hn : ¬ (kd = 1 ∨ kd = 2) := by omega
    simp only [dep, hn, if_false]; omega
theorem list_good {kd n : Int} {s : List UInt8} {ks : List (List UInt8)} {l : List Val} {d : Nat} (hk : kd = 3 ∨ kd = 4) (h : good d (.mk kd n s l ks)) : n = 0 ∧ s = [] ∧ KOk kd ks l ∧ d < 16 ∧ ∀ x ∈ l, good (d + 1) x := by
  obtain ⟨h1, h2, h3⟩ := h
  simp only [ints, intsL_iff] at h2
  have hn : ¬ (kd = 1 ∨ kd = 2) := by omega
  simp only [dep, hn, if_false] at h3
  have hd : ∀ x ∈ l, dep x + (d + 1) ≤ 16 := fun x hx => by have := depL_le.1 (Nat.le_refl (depL l)) x hx; omega
  rcases hk with rfl | rfl
  · obtain ⟨rfl, rfl, rfl, w⟩ := wf3 h1
    exact ⟨rfl, rfl, ⟨fun h => by omega, fun _ => rfl⟩, by omega, fun x hx => ⟨w x hx, h2.2 x hx, hd x hx⟩⟩
  · obtain ⟨rfl, rfl, g, gi, w⟩ := wf4 h1
    exact ⟨rfl, rfl, ⟨fun _ => ⟨g, gi⟩, fun h => by omega⟩, by omega, fun x hx => ⟨w x hx, h2.2 x hx, hd x hx⟩⟩
/-- The rest of a list's bytes, where some elements are read. -/
theorem body_pre {kd : Int} (hk : kd = 3 ∨ kd = 4) {d : Nat} {K ks : List (List UInt8)} {L l : List Val} {r a r0 : List UInt8} (hr0 : r0.length ≤ 140737488355328) (hL : ∀ x ∈ L, good (d + 1) x) (hl : ∀ x ∈ l, good (d + 1) x) (hK : KOk kd K L) (hks : KOk kd ks l)
    (h1 : r0 = body kd K L ++ r) (h2 : r0 = body kd ks l ++ 101 :: a) : ∃ ks2 l2, ks = K ++ ks2 ∧ l = L ++ l2 ∧ r = body kd ks2 l2 ++ 101 :: a := by
  have hb1 : (body kd K L).length ≤ r0.length := by rw [h1]; simp
  have hb2 : (body kd ks l).length ≤ r0.length := by rw [h2]; simp
  rcases hk with rfl | rfl
  · have hK' := hK.2 rfl
    have hks' := hks.2 rfl
    subst hK'; subst hks'
    simp only [body, show ¬ (3 : Int) = 4 by decide, if_false] at *
    obtain ⟨l2, e1, e2⟩ := encL_pre (fun x hx => ⟨(hL x hx).1, rng_of (hL x hx).1 (hL x hx).2.1 (by have := encL_mem hx; omega)⟩) (fun x hx => ⟨(hl x hx).1, rng_of (hl x hx).1 (hl x hx).2.1 (by have := encL_mem hx; omega)⟩) (h1.symm.trans h2)
    exact ⟨[], l2, rfl, e1, e2⟩
  · obtain ⟨g1, _⟩ := hK.1 rfl
    obtain ⟨g2, _⟩ := hks.1 rfl
    simp only [body, if_true] at *
    exact encD_pre (fun x hx => ⟨(hL x hx).1, rng_of (hL x hx).1 (hL x hx).2.1 (by have := encD_mem (ks := K) hx; omega)⟩) (fun x hx => ⟨(hl x hx).1, rng_of (hl x hx).1 (hl x hx).2.1 (by have := encD_mem (ks := ks) hx; omega)⟩) g1 g2
      (fun q hq => by have := encD_key g1 hq; omega) (fun q hq => by have := encD_key g2 hq; omega) (h1.symm.trans h2)
theorem body_snoc3 (L : List Val) (x : Val) : body 3 [] (L ++ [x]) = body 3 [] L ++ enc x := by simp [body, encL_append, encL]
theorem body_snoc4 {K : List (List UInt8)} {L : List Val} (h : K.length = L.length) (k : List UInt8) (x : Val) : body 4 (K ++ [k]) (L ++ [x]) = body 4 K L ++ (txt k ++ enc x) := by
  simp only [body, if_true, encD_append]
  rw [encD_keys K [k] L (by omega), ← h, List.drop_left]
  simp [encD]
end Go.Proofs.YtimalbkjflfdoaaDoor
