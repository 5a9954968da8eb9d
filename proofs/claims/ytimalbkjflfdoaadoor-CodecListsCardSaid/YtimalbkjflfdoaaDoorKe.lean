/-
  Texts that belong together, one behind the other; what each of them proves, and under which conditions, its own heading says.
-/
import Derived.Test.YtimalbkjflfdoaaDoorRows
import Derived.Test.YtimalbkjflfdoaaDoorKd
/-
  Go functions as partial functions, printed by auto.py: what each returns when its partial function has a value. Conditions: those of each theorem.
-/
namespace Go.Proofs.YtimalbkjflfdoaaDoor
open Go.DL
set_option maxRecDepth 100000
set_option maxHeartbeats 4000000
set_option linter.unusedVariables false
set_option linter.unusedSimpArgs false
theorem g_codec_Encode_ret {v_1 : Val} {r : ((List UInt8) × Int) ⊕ Unit} (h : g_codec_Encode v_1 = some r) : CT Tryd.prog 12 3 [(.agg (qVal v_1))] [(0, (.obj (tabP Tryd.prog))), (1, (.obj (errP 1))), (2, (.obj (errP 2)))] (CoR 3 ghosts (fun x => ((.tup [(false, [(.dat (.sl 1 (x.1.map elB)))]), (false, [(.dat (I x.2))])]), [(0, (.obj (tabP Tryd.prog))), (1, (.obj (errP 1))), (2, (.obj (errP 2)))])) (.iface 29 (.int .i64 20)) r) := by
  refine CT.of_T Tryd.func12 (by kernel_rfl) rfl ?_
  refine T_turn [] [0] [] (mk 19 [(0, (.agg (qVal v_1)))] [(0, (.obj (tabP Tryd.prog))), (1, (.obj (errP 1))), (2, (.obj (errP 2)))]) (by kernel_rfl) ?_
  refine T_reg [] [1] [] (mk 19 [(1, (rf 4 0))] [(4, (.var (qVal v_1))), (0, (.obj (tabP Tryd.prog))), (1, (.obj (errP 1))), (2, (.obj (errP 2)))]) _ (by kernel_rfl) (z6 zt) ?_
  refine T_seq ?_
  obtain ⟨r_2, e3, h⟩ := bd_inv h
  refine T_reg [zn, (zd (I r_2))] [1, 4] [] (mk 19 [(1, (rf 4 0)), (4, (di r_2))] [(4, (.var (qVal v_1))), (0, (.obj (tabP Tryd.prog))), (1, (.obj (errP 1))), (2, (.obj (errP 2)))]) _ (by kernel_rfl) (z3 (zc (g_codec_Check_ret e3) (z2 zt))) ?_
  refine T_reg [] [1, 4, 8] [] (mk 19 [(1, (rf 4 0)), (4, (di r_2)), (8, (db (r_2 != 0)))] [(4, (.var (qVal v_1))), (0, (.obj (tabP Tryd.prog))), (1, (.obj (errP 1))), (2, (.obj (errP 2)))]) _ (by kernel_rfl) (z4 zt) ?_
  refine T_cond (r_2 != 0) (by kernel_rfl) (fun b4 => ?_) (fun b4 => ?_)
  replace h := ite_t b4 h
  refine T_reg [] [2, 3] [4] (mk 19 [(2, (dt nilS)), (3, (di r_2))] [(0, (.obj (tabP Tryd.prog))), (1, (.obj (errP 1))), (2, (.obj (errP 2)))]) _ (by kernel_rfl) (z6 zt) ?_
  refine T_arr [.nilS 2 0 1] [2, 3] [] [0, 1, 2] (mk 19 [(2, (dt (.sl 1 (([] : List UInt8).map elB)))), (3, (di r_2))] [(0, (.obj (tabP Tryd.prog))), (1, (.obj (errP 1))), (2, (.obj (errP 2)))]) (by kernel_rfl) ?_
  refine T_ret ?_
  obtain rfl := some_inv h
  exact ⟨[(dt (.sl 1 (([] : List UInt8).map elB))), (di r_2)], by kernel_rfl, rfl⟩
  replace h := ite_f b4 h
  refine T_skip ?_
  refine T_arr [] [1, 4, 8] [] [0, 1, 2, 4] (mk 19 [(1, (rf 4 0)), (4, (di r_2)), (8, (db (r_2 != 0)))] [(0, (.obj (tabP Tryd.prog))), (1, (.obj (errP 1))), (2, (.obj (errP 2))), (4, (.var (qVal v_1)))]) (by kernel_rfl) ?_
  rcases Bool.eq_false_or_eq_true (v_1.k == 0) with b5 | b5
  replace h := ite_t b5 h
  exact absurd (ck_inv (p := False) h).1 id
  replace h := ite_f b5 h
  rcases Bool.eq_false_or_eq_true (v_1.k == 1) with b6 | b6
  replace h := ite_t b6 h
  obtain ⟨y8, e9, hk10, hz11⟩ := bdP_inv h
  rcases y8 with r_7 | u
  replace h := hk10 _ rfl
  refine T_seq (T_stC [{}, {}, {}, {}, { h := zd (I 1) }, {}, {}, {}, {}, {}, {}] _ [(0, 10, (rf 100006 0)), (1, 11, (rf 4 0)), (2, 12, (di v_1.k)), (3, 13, (rf 100006 0)), (4, 14, (rf 100006 1)), (5, 15, (rf 100006 1)), (6, 16, (.one (.fn 39 []))), (7, 17, (.agg (qVal v_1))), (8, 18, (ow 100008)), (9, 2, (ow 100008)), (10, 3, (di 0))] [(0, 100004, some (.var [(.ref 100006 0)])), (0, 100006, some (.var [(.dat (.con .nilFunc)), (.fn 39 []), (.fn 41 []), (.fn 43 [.inl 100004]), (.fn 44 [.inl 100004])])), (8, 100008, some (.row 5 1 (r_7.map elB)))] [0, 1, 2, 4, 100004, 100006, 100008] 11 [0, 0, 2, 1, 15, 31, 63, 0, 255, 511, 1023] 257 [0, 1, 257] [0, 8] none (by kernel_rfl) (by decide) (by kernel_rfl) (by kernel_rfl) (by kernel_rfl) (by kernel_rfl) (by kernel_rfl) (by kernel_rfl) (by kernel_rfl) (zs zt (zs zt (zs zt (zs zt (zs (eq_of_beq b6) (zs zt (zs zt (zs zt (zs zt (zs zt (zs zt zS))))))))))) ?_ (fun _ => ?_))
  intro c hc; simp only [List.mem_cons, List.not_mem_nil, or_false] at hc; rcases hc with rfl | rfl
  exact ⟨_, rfl, callU (hand := [0, 1, 2]) (nb := 100003) [] (newWriter_ret) [0, 1, 2, 4, 100004, 100006, 100008] (by decide) rfl rfl 0 _ _ _ (by kernel_rfl) (by kernel_rfl) (by kernel_rfl) (by kernel_rfl) (by kernel_rfl) (by kernel_rfl)⟩
  exact ⟨_, rfl, callU (hand := [0, 1, 2]) (nb := 100007) [] (CT.nil (n := 3) (ls := [(.agg (qVal v_1))]) (bx := [(0, (.obj (tabP Tryd.prog))), (1, (.obj (errP 1))), (2, (.obj (errP 2)))]) 5 1 (g_codec_newWriter_1_ret e9) (by kernel_rfl) (by kernel_rfl) (by kernel_rfl)) [0, 1, 2, 4, 100004, 100006, 100008] (by decide) rfl rfl 8 _ _ _ (by kernel_rfl) (by kernel_rfl) (by kernel_rfl) (by kernel_rfl) (by kernel_rfl) (by kernel_rfl)⟩
  refine T_turn [] [2, 3] [4, 100004, 100006] (mk 19 [(2, (ow 100008)), (3, (di 0))] [(0, (.obj (tabP Tryd.prog))), (1, (.obj (errP 1))), (2, (.obj (errP 2))), (100008, (.row 5 1 (r_7.map elB)))]) (by kernel_rfl) ?_
  refine T_arr [.ice 100008] [2, 3] [100008] [0, 1, 2] (mk 19 [(2, (dt (.sl 1 (r_7.map elB)))), (3, (di 0))] [(0, (.obj (tabP Tryd.prog))), (1, (.obj (errP 1))), (2, (.obj (errP 2)))]) (by kernel_rfl) ?_
  refine T_ret ?_
  obtain rfl := some_inv h
  exact ⟨[(dt (.sl 1 (r_7.map elB))), (di 0)], by kernel_rfl, rfl⟩
  replace h := hz11 rfl
  obtain rfl := some_inv h
  refine T_seq (T_stC [{}, {}, {}, {}, { h := zd (I 1) }, {}, {}, {}, {}, {}, {}] _ [(0, 10, (rf 100006 0)), (1, 11, (rf 4 0)), (2, 12, (di v_1.k)), (3, 13, (rf 100006 0)), (4, 14, (rf 100006 1)), (5, 15, (rf 100006 1)), (6, 16, (.one (.fn 39 []))), (7, 17, (.agg (qVal v_1)))] [(0, 100004, some (.var [(.ref 100006 0)])), (0, 100006, some (.var [(.dat (.con .nilFunc)), (.fn 39 []), (.fn 41 []), (.fn 43 [.inl 100004]), (.fn 44 [.inl 100004])]))] [0, 1, 2, 4, 100004, 100006] 11 [0, 0, 2, 1, 15, 31, 63, 0, 255, 511, 1023] 1793 [0, 1] [0, 8] (some 8) (by kernel_rfl) (by decide) (by kernel_rfl) (by kernel_rfl) (by kernel_rfl) (by kernel_rfl) (by kernel_rfl) (by kernel_rfl) (by kernel_rfl) (zs zt (zs zt (zs zt (zs zt (zs (eq_of_beq b6) (zs zt (zs zt (zs zt (zs zt (zs zt (zs zt zS))))))))))) ?_ (fun h => absurd h (by decide)))
  intro c hc; simp only [List.mem_cons, List.not_mem_nil, or_false] at hc; rcases hc with rfl | rfl
  exact ⟨_, rfl, callU (hand := [0, 1, 2]) (nb := 100003) [] (newWriter_ret) [0, 1, 2, 4, 100004, 100006] (by decide) rfl rfl 0 _ _ _ (by kernel_rfl) (by kernel_rfl) (by kernel_rfl) (by kernel_rfl) (by kernel_rfl) (by kernel_rfl)⟩
  refine ⟨_, rfl, callP (hand := [0, 1, 2]) (nb := 100007) [] (CT.nil (n := 3) (ls := [(.agg (qVal v_1))]) (bx := [(0, (.obj (tabP Tryd.prog))), (1, (.obj (errP 1))), (2, (.obj (errP 2)))]) 5 1 (g_codec_newWriter_1_ret e9) (by kernel_rfl) (by kernel_rfl) (by kernel_rfl)) rfl rfl 8 _ _ _ (by kernel_rfl) (by kernel_rfl) (by kernel_rfl) (by kernel_rfl) (fun _ _ hlk => ?_)⟩
  exact (show _ ∧ _ from ⟨rfl, ⟨_, rfl, lk3 ((after_lk (by kernel_rfl) rfl).trans (by rw [hlk 0 (by decide)]; kernel_rfl)) ((after_lk (by kernel_rfl) rfl).trans (by rw [hlk 1 (by decide)]; kernel_rfl)) ((after_lk (by kernel_rfl) rfl).trans (by rw [hlk 2 (by decide)]; kernel_rfl))⟩⟩)
  replace h := ite_f b6 h
  rcases Bool.eq_false_or_eq_true (v_1.k == 2) with b12 | b12
  replace h := ite_t b12 h
  obtain ⟨y14, e15, hk16, hz17⟩ := bdP_inv h
  rcases y14 with r_13 | u
  replace h := hk16 _ rfl
  refine T_seq (T_stC [{}, {}, {}, {}, { h := zd (I 2) }, {}, {}, {}, {}, {}, {}] _ [(0, 10, (rf 100006 0)), (1, 11, (rf 4 0)), (2, 12, (di v_1.k)), (3, 13, (rf 100006 0)), (4, 14, (rf 100006 2)), (5, 15, (rf 100006 2)), (6, 16, (.one (.fn 41 []))), (7, 17, (.agg (qVal v_1))), (8, 18, (ow 100008)), (9, 2, (ow 100008)), (10, 3, (di 0))] [(0, 100004, some (.var [(.ref 100006 0)])), (0, 100006, some (.var [(.dat (.con .nilFunc)), (.fn 39 []), (.fn 41 []), (.fn 43 [.inl 100004]), (.fn 44 [.inl 100004])])), (8, 100008, some (.row 5 1 (r_13.map elB)))] [0, 1, 2, 4, 100004, 100006, 100008] 11 [0, 0, 2, 1, 15, 31, 63, 0, 255, 511, 1023] 257 [0, 1, 257] [0, 8] none (by kernel_rfl) (by decide) (by kernel_rfl) (by kernel_rfl) (by kernel_rfl) (by kernel_rfl) (by kernel_rfl) (by kernel_rfl) (by kernel_rfl) (zs zt (zs zt (zs zt (zs zt (zs (eq_of_beq b12) (zs zt (zs zt (zs zt (zs zt (zs zt (zs zt zS))))))))))) ?_ (fun _ => ?_))
  intro c hc; simp only [List.mem_cons, List.not_mem_nil, or_false] at hc; rcases hc with rfl | rfl
  exact ⟨_, rfl, callU (hand := [0, 1, 2]) (nb := 100003) [] (newWriter_ret) [0, 1, 2, 4, 100004, 100006, 100008] (by decide) rfl rfl 0 _ _ _ (by kernel_rfl) (by kernel_rfl) (by kernel_rfl) (by kernel_rfl) (by kernel_rfl) (by kernel_rfl)⟩
  exact ⟨_, rfl, callU (hand := [0, 1, 2]) (nb := 100007) [] (CT.nil (n := 3) (ls := [(.agg (qVal v_1))]) (bx := [(0, (.obj (tabP Tryd.prog))), (1, (.obj (errP 1))), (2, (.obj (errP 2)))]) 5 1 (g_codec_newWriter_2_ret e15) (by kernel_rfl) (by kernel_rfl) (by kernel_rfl)) [0, 1, 2, 4, 100004, 100006, 100008] (by decide) rfl rfl 8 _ _ _ (by kernel_rfl) (by kernel_rfl) (by kernel_rfl) (by kernel_rfl) (by kernel_rfl) (by kernel_rfl)⟩
  refine T_turn [] [2, 3] [4, 100004, 100006] (mk 19 [(2, (ow 100008)), (3, (di 0))] [(0, (.obj (tabP Tryd.prog))), (1, (.obj (errP 1))), (2, (.obj (errP 2))), (100008, (.row 5 1 (r_13.map elB)))]) (by kernel_rfl) ?_
  refine T_arr [.ice 100008] [2, 3] [100008] [0, 1, 2] (mk 19 [(2, (dt (.sl 1 (r_13.map elB)))), (3, (di 0))] [(0, (.obj (tabP Tryd.prog))), (1, (.obj (errP 1))), (2, (.obj (errP 2)))]) (by kernel_rfl) ?_
  refine T_ret ?_
  obtain rfl := some_inv h
  exact ⟨[(dt (.sl 1 (r_13.map elB))), (di 0)], by kernel_rfl, rfl⟩
  replace h := hz17 rfl
  obtain rfl := some_inv h
  refine T_seq (T_stC [{}, {}, {}, {}, { h := zd (I 2) }, {}, {}, {}, {}, {}, {}] _ [(0, 10, (rf 100006 0)), (1, 11, (rf 4 0)), (2, 12, (di v_1.k)), (3, 13, (rf 100006 0)), (4, 14, (rf 100006 2)), (5, 15, (rf 100006 2)), (6, 16, (.one (.fn 41 []))), (7, 17, (.agg (qVal v_1)))] [(0, 100004, some (.var [(.ref 100006 0)])), (0, 100006, some (.var [(.dat (.con .nilFunc)), (.fn 39 []), (.fn 41 []), (.fn 43 [.inl 100004]), (.fn 44 [.inl 100004])]))] [0, 1, 2, 4, 100004, 100006] 11 [0, 0, 2, 1, 15, 31, 63, 0, 255, 511, 1023] 1793 [0, 1] [0, 8] (some 8) (by kernel_rfl) (by decide) (by kernel_rfl) (by kernel_rfl) (by kernel_rfl) (by kernel_rfl) (by kernel_rfl) (by kernel_rfl) (by kernel_rfl) (zs zt (zs zt (zs zt (zs zt (zs (eq_of_beq b12) (zs zt (zs zt (zs zt (zs zt (zs zt (zs zt zS))))))))))) ?_ (fun h => absurd h (by decide)))
  intro c hc; simp only [List.mem_cons, List.not_mem_nil, or_false] at hc; rcases hc with rfl | rfl
  exact ⟨_, rfl, callU (hand := [0, 1, 2]) (nb := 100003) [] (newWriter_ret) [0, 1, 2, 4, 100004, 100006] (by decide) rfl rfl 0 _ _ _ (by kernel_rfl) (by kernel_rfl) (by kernel_rfl) (by kernel_rfl) (by kernel_rfl) (by kernel_rfl)⟩
  refine ⟨_, rfl, callP (hand := [0, 1, 2]) (nb := 100007) [] (CT.nil (n := 3) (ls := [(.agg (qVal v_1))]) (bx := [(0, (.obj (tabP Tryd.prog))), (1, (.obj (errP 1))), (2, (.obj (errP 2)))]) 5 1 (g_codec_newWriter_2_ret e15) (by kernel_rfl) (by kernel_rfl) (by kernel_rfl)) rfl rfl 8 _ _ _ (by kernel_rfl) (by kernel_rfl) (by kernel_rfl) (by kernel_rfl) (fun _ _ hlk => ?_)⟩
  exact (show _ ∧ _ from ⟨rfl, ⟨_, rfl, lk3 ((after_lk (by kernel_rfl) rfl).trans (by rw [hlk 0 (by decide)]; kernel_rfl)) ((after_lk (by kernel_rfl) rfl).trans (by rw [hlk 1 (by decide)]; kernel_rfl)) ((after_lk (by kernel_rfl) rfl).trans (by rw [hlk 2 (by decide)]; kernel_rfl))⟩⟩)
  replace h := ite_f b12 h
  rcases Bool.eq_false_or_eq_true (v_1.k == 3) with b18 | b18
  replace h := ite_t b18 h
  obtain ⟨y20, e21, hk22, hz23⟩ := bdP_inv h
  rcases y20 with r_19 | u
  replace h := hk22 _ rfl
  refine T_seq (T_stC [{}, {}, {}, {}, { h := zd (I 3) }, {}, {}, {}, {}, {}, {}] _ [(0, 10, (rf 100006 0)), (1, 11, (rf 4 0)), (2, 12, (di v_1.k)), (3, 13, (rf 100006 0)), (4, 14, (rf 100006 3)), (5, 15, (rf 100006 3)), (6, 16, (.one (.fn 43 [.inl 100004]))), (7, 17, (.agg (qVal v_1))), (8, 18, (ow 100008)), (9, 2, (ow 100008)), (10, 3, (di 0))] [(0, 100004, some (.var [(.ref 100006 0)])), (0, 100006, some (.var [(.dat (.con .nilFunc)), (.fn 39 []), (.fn 41 []), (.fn 43 [.inl 100004]), (.fn 44 [.inl 100004])])), (8, 100008, some (.row 5 1 (r_19.map elB)))] [0, 1, 2, 4, 100004, 100006, 100008] 11 [0, 0, 2, 1, 15, 31, 63, 0, 255, 511, 1023] 257 [0, 1, 257] [0, 8] none (by kernel_rfl) (by decide) (by kernel_rfl) (by kernel_rfl) (by kernel_rfl) (by kernel_rfl) (by kernel_rfl) (by kernel_rfl) (by kernel_rfl) (zs zt (zs zt (zs zt (zs zt (zs (eq_of_beq b18) (zs zt (zs zt (zs zt (zs zt (zs zt (zs zt zS))))))))))) ?_ (fun _ => ?_))
  intro c hc; simp only [List.mem_cons, List.not_mem_nil, or_false] at hc; rcases hc with rfl | rfl
  exact ⟨_, rfl, callU (hand := [0, 1, 2]) (nb := 100003) [] (newWriter_ret) [0, 1, 2, 4, 100004, 100006, 100008] (by decide) rfl rfl 0 _ _ _ (by kernel_rfl) (by kernel_rfl) (by kernel_rfl) (by kernel_rfl) (by kernel_rfl) (by kernel_rfl)⟩
  exact ⟨_, rfl, callU (hand := [0, 1, 2, 100004, 100006]) (nb := 100007) [.inl 100004] (CT.nil (n := 5) (ls := [(.agg (qVal v_1)), (rf 3 0)]) (bx := [(0, (.obj (tabP Tryd.prog))), (1, (.obj (errP 1))), (2, (.obj (errP 2))), (3, (.var [(.ref 4 0)])), (4, (.var [(.dat (.con .nilFunc)), (.fn 39 []), (.fn 41 []), (.fn 43 [.inl 3]), (.fn 44 [.inl 3])]))]) 5 1 ((g_writer_ret 60).1 e21) (by kernel_rfl) (by kernel_rfl) (by kernel_rfl)) [0, 1, 2, 4, 100004, 100006, 100008] (by decide) rfl rfl 8 _ _ _ (by kernel_rfl) (by kernel_rfl) (by kernel_rfl) (by kernel_rfl) (by kernel_rfl) (by kernel_rfl)⟩
  refine T_turn [] [2, 3] [4, 100004, 100006] (mk 19 [(2, (ow 100008)), (3, (di 0))] [(0, (.obj (tabP Tryd.prog))), (1, (.obj (errP 1))), (2, (.obj (errP 2))), (100008, (.row 5 1 (r_19.map elB)))]) (by kernel_rfl) ?_
  refine T_arr [.ice 100008] [2, 3] [100008] [0, 1, 2] (mk 19 [(2, (dt (.sl 1 (r_19.map elB)))), (3, (di 0))] [(0, (.obj (tabP Tryd.prog))), (1, (.obj (errP 1))), (2, (.obj (errP 2)))]) (by kernel_rfl) ?_
  refine T_ret ?_
  obtain rfl := some_inv h
  exact ⟨[(dt (.sl 1 (r_19.map elB))), (di 0)], by kernel_rfl, rfl⟩
  replace h := hz23 rfl
  obtain rfl := some_inv h
  refine T_seq (T_stC [{}, {}, {}, {}, { h := zd (I 3) }, {}, {}, {}, {}, {}, {}] _ [(0, 10, (rf 100006 0)), (1, 11, (rf 4 0)), (2, 12, (di v_1.k)), (3, 13, (rf 100006 0)), (4, 14, (rf 100006 3)), (5, 15, (rf 100006 3)), (6, 16, (.one (.fn 43 [.inl 100004]))), (7, 17, (.agg (qVal v_1)))] [(0, 100004, some (.var [(.ref 100006 0)])), (0, 100006, some (.var [(.dat (.con .nilFunc)), (.fn 39 []), (.fn 41 []), (.fn 43 [.inl 100004]), (.fn 44 [.inl 100004])]))] [0, 1, 2, 4, 100004, 100006] 11 [0, 0, 2, 1, 15, 31, 63, 0, 255, 511, 1023] 1793 [0, 1] [0, 8] (some 8) (by kernel_rfl) (by decide) (by kernel_rfl) (by kernel_rfl) (by kernel_rfl) (by kernel_rfl) (by kernel_rfl) (by kernel_rfl) (by kernel_rfl) (zs zt (zs zt (zs zt (zs zt (zs (eq_of_beq b18) (zs zt (zs zt (zs zt (zs zt (zs zt (zs zt zS))))))))))) ?_ (fun h => absurd h (by decide)))
  intro c hc; simp only [List.mem_cons, List.not_mem_nil, or_false] at hc; rcases hc with rfl | rfl
  exact ⟨_, rfl, callU (hand := [0, 1, 2]) (nb := 100003) [] (newWriter_ret) [0, 1, 2, 4, 100004, 100006] (by decide) rfl rfl 0 _ _ _ (by kernel_rfl) (by kernel_rfl) (by kernel_rfl) (by kernel_rfl) (by kernel_rfl) (by kernel_rfl)⟩
  refine ⟨_, rfl, callP (hand := [0, 1, 2, 100004, 100006]) (nb := 100007) [.inl 100004] (CT.nil (n := 5) (ls := [(.agg (qVal v_1)), (rf 3 0)]) (bx := [(0, (.obj (tabP Tryd.prog))), (1, (.obj (errP 1))), (2, (.obj (errP 2))), (3, (.var [(.ref 4 0)])), (4, (.var [(.dat (.con .nilFunc)), (.fn 39 []), (.fn 41 []), (.fn 43 [.inl 3]), (.fn 44 [.inl 3])]))]) 5 1 ((g_writer_ret 60).1 e21) (by kernel_rfl) (by kernel_rfl) (by kernel_rfl)) rfl rfl 8 _ _ _ (by kernel_rfl) (by kernel_rfl) (by kernel_rfl) (by kernel_rfl) (fun _ _ hlk => ?_)⟩
  exact (show _ ∧ _ from ⟨rfl, ⟨_, rfl, lk3 ((after_lk (by kernel_rfl) rfl).trans (by rw [hlk 0 (by decide)]; kernel_rfl)) ((after_lk (by kernel_rfl) rfl).trans (by rw [hlk 1 (by decide)]; kernel_rfl)) ((after_lk (by kernel_rfl) rfl).trans (by rw [hlk 2 (by decide)]; kernel_rfl))⟩⟩)
  replace h := ite_f b18 h
  obtain ⟨c24, h⟩ := ck_inv h
  obtain ⟨y26, e27, hk28, hz29⟩ := bdP_inv h
  rcases y26 with r_25 | u
  replace h := hk28 _ rfl
  refine T_seq (T_stC [{}, {}, {}, {}, { h := zd (I 4) }, {}, {}, {}, {}, {}, {}] _ [(0, 10, (rf 100006 0)), (1, 11, (rf 4 0)), (2, 12, (di v_1.k)), (3, 13, (rf 100006 0)), (4, 14, (rf 100006 4)), (5, 15, (rf 100006 4)), (6, 16, (.one (.fn 44 [.inl 100004]))), (7, 17, (.agg (qVal v_1))), (8, 18, (ow 100008)), (9, 2, (ow 100008)), (10, 3, (di 0))] [(0, 100004, some (.var [(.ref 100006 0)])), (0, 100006, some (.var [(.dat (.con .nilFunc)), (.fn 39 []), (.fn 41 []), (.fn 43 [.inl 100004]), (.fn 44 [.inl 100004])])), (8, 100008, some (.row 5 1 (r_25.map elB)))] [0, 1, 2, 4, 100004, 100006, 100008] 11 [0, 0, 2, 1, 15, 31, 63, 0, 255, 511, 1023] 257 [0, 1, 257] [0, 8] none (by kernel_rfl) (by decide) (by kernel_rfl) (by kernel_rfl) (by kernel_rfl) (by kernel_rfl) (by kernel_rfl) (by kernel_rfl) (by kernel_rfl) (zs zt (zs zt (zs zt (zs zt (zs c24 (zs zt (zs zt (zs zt (zs zt (zs zt (zs zt zS))))))))))) ?_ (fun _ => ?_))
  intro c hc; simp only [List.mem_cons, List.not_mem_nil, or_false] at hc; rcases hc with rfl | rfl
  exact ⟨_, rfl, callU (hand := [0, 1, 2]) (nb := 100003) [] (newWriter_ret) [0, 1, 2, 4, 100004, 100006, 100008] (by decide) rfl rfl 0 _ _ _ (by kernel_rfl) (by kernel_rfl) (by kernel_rfl) (by kernel_rfl) (by kernel_rfl) (by kernel_rfl)⟩
  exact ⟨_, rfl, callU (hand := [0, 1, 2, 100004, 100006]) (nb := 100007) [.inl 100004] (CT.nil (n := 5) (ls := [(.agg (qVal v_1)), (rf 3 0)]) (bx := [(0, (.obj (tabP Tryd.prog))), (1, (.obj (errP 1))), (2, (.obj (errP 2))), (3, (.var [(.ref 4 0)])), (4, (.var [(.dat (.con .nilFunc)), (.fn 39 []), (.fn 41 []), (.fn 43 [.inl 3]), (.fn 44 [.inl 3])]))]) 5 1 ((g_writer_ret 60).2 e27) (by kernel_rfl) (by kernel_rfl) (by kernel_rfl)) [0, 1, 2, 4, 100004, 100006, 100008] (by decide) rfl rfl 8 _ _ _ (by kernel_rfl) (by kernel_rfl) (by kernel_rfl) (by kernel_rfl) (by kernel_rfl) (by kernel_rfl)⟩
  refine T_turn [] [2, 3] [4, 100004, 100006] (mk 19 [(2, (ow 100008)), (3, (di 0))] [(0, (.obj (tabP Tryd.prog))), (1, (.obj (errP 1))), (2, (.obj (errP 2))), (100008, (.row 5 1 (r_25.map elB)))]) (by kernel_rfl) ?_
  refine T_arr [.ice 100008] [2, 3] [100008] [0, 1, 2] (mk 19 [(2, (dt (.sl 1 (r_25.map elB)))), (3, (di 0))] [(0, (.obj (tabP Tryd.prog))), (1, (.obj (errP 1))), (2, (.obj (errP 2)))]) (by kernel_rfl) ?_
  refine T_ret ?_
  obtain rfl := some_inv h
  exact ⟨[(dt (.sl 1 (r_25.map elB))), (di 0)], by kernel_rfl, rfl⟩
  replace h := hz29 rfl
  obtain rfl := some_inv h
  refine T_seq (T_stC [{}, {}, {}, {}, { h := zd (I 4) }, {}, {}, {}, {}, {}, {}] _ [(0, 10, (rf 100006 0)), (1, 11, (rf 4 0)), (2, 12, (di v_1.k)), (3, 13, (rf 100006 0)), (4, 14, (rf 100006 4)), (5, 15, (rf 100006 4)), (6, 16, (.one (.fn 44 [.inl 100004]))), (7, 17, (.agg (qVal v_1)))] [(0, 100004, some (.var [(.ref 100006 0)])), (0, 100006, some (.var [(.dat (.con .nilFunc)), (.fn 39 []), (.fn 41 []), (.fn 43 [.inl 100004]), (.fn 44 [.inl 100004])]))] [0, 1, 2, 4, 100004, 100006] 11 [0, 0, 2, 1, 15, 31, 63, 0, 255, 511, 1023] 1793 [0, 1] [0, 8] (some 8) (by kernel_rfl) (by decide) (by kernel_rfl) (by kernel_rfl) (by kernel_rfl) (by kernel_rfl) (by kernel_rfl) (by kernel_rfl) (by kernel_rfl) (zs zt (zs zt (zs zt (zs zt (zs c24 (zs zt (zs zt (zs zt (zs zt (zs zt (zs zt zS))))))))))) ?_ (fun h => absurd h (by decide)))
  intro c hc; simp only [List.mem_cons, List.not_mem_nil, or_false] at hc; rcases hc with rfl | rfl
  exact ⟨_, rfl, callU (hand := [0, 1, 2]) (nb := 100003) [] (newWriter_ret) [0, 1, 2, 4, 100004, 100006] (by decide) rfl rfl 0 _ _ _ (by kernel_rfl) (by kernel_rfl) (by kernel_rfl) (by kernel_rfl) (by kernel_rfl) (by kernel_rfl)⟩
  refine ⟨_, rfl, callP (hand := [0, 1, 2, 100004, 100006]) (nb := 100007) [.inl 100004] (CT.nil (n := 5) (ls := [(.agg (qVal v_1)), (rf 3 0)]) (bx := [(0, (.obj (tabP Tryd.prog))), (1, (.obj (errP 1))), (2, (.obj (errP 2))), (3, (.var [(.ref 4 0)])), (4, (.var [(.dat (.con .nilFunc)), (.fn 39 []), (.fn 41 []), (.fn 43 [.inl 3]), (.fn 44 [.inl 3])]))]) 5 1 ((g_writer_ret 60).2 e27) (by kernel_rfl) (by kernel_rfl) (by kernel_rfl)) rfl rfl 8 _ _ _ (by kernel_rfl) (by kernel_rfl) (by kernel_rfl) (by kernel_rfl) (fun _ _ hlk => ?_)⟩
  exact (show _ ∧ _ from ⟨rfl, ⟨_, rfl, lk3 ((after_lk (by kernel_rfl) rfl).trans (by rw [hlk 0 (by decide)]; kernel_rfl)) ((after_lk (by kernel_rfl) rfl).trans (by rw [hlk 1 (by decide)]; kernel_rfl)) ((after_lk (by kernel_rfl) rfl).trans (by rw [hlk 2 (by decide)]; kernel_rfl))⟩⟩)

end Go.Proofs.YtimalbkjflfdoaaDoor

/-
  Go functions as partial functions, printed by auto.py: what each returns when its partial function has a value. Conditions: those of each theorem.
-/
namespace Go.Proofs.YtimalbkjflfdoaaDoor
open Go.DL
set_option maxRecDepth 100000
set_option maxHeartbeats 4000000
set_option linter.unusedVariables false
set_option linter.unusedSimpArgs false
noncomputable def g_law02_sane_j2 : Option ((Bool) ⊕ Unit) :=
  bd (g_codec_Check (⟨0, 0, ([] : List UInt8), ([] : List Val), ([] : List (List UInt8))⟩ : Val)) fun r_23 => some (.inl (r_23 == 1))
noncomputable def g_law02_sane_l3 (v : Nat) : Option ((Nat) ⊕ ((Bool) ⊕ Unit)) :=
  match v with | v_25 => if (decide (((v_25 : Nat) : Int) < ((([([105, 45, 48, 101] : List UInt8), ([105, 48, 51, 101] : List UInt8), ([48, 49, 58, 97] : List UInt8), ([100, 49, 58, 98, 105, 49, 101, 49, 58, 97, 105, 50, 101, 101] : List UInt8), ([105, 51, 101, 32] : List UInt8), ([] : List UInt8)]).length : Nat) : Int))) = true then (gn ([([105, 45, 48, 101] : List UInt8), ([105, 48, 51, 101] : List UInt8), ([48, 49, 58, 97] : List UInt8), ([100, 49, 58, 98, 105, 49, 101, 49, 58, 97, 105, 50, 101, 101] : List UInt8), ([105, 51, 101, 32] : List UInt8), ([] : List UInt8)]) v_25 fun x_28 => ck (x_28.length ≤ 140737488355328) <| bdP (g_codec_Decode x_28) (fun r_33 => if (r_33.2 != 20) = true then (up (some (.inl false))) else ckI (((v_25 : Nat) : Int) + 1) <| some (.inl (v_25 + 1))) (up (some (.inr ())))) else up (g_law02_sane_j2)
noncomputable def g_law02_sane_j1 (v_21 : Bool) : Option ((Bool) ⊕ Unit) :=
  if (v_21) = true then (some (.inl false)) else loopO g_law02_sane_l3 0
noncomputable def g_law02_sane : Option ((Bool) ⊕ Unit) :=
  bd (g_ref02_Int (-3)) fun r_1 => bd (g_ref02_Text ([97, 98] : List UInt8)) fun r_3 => bd (g_ref02_List ([r_1, r_3])) fun r_5 => bdP (g_codec_Encode r_5) (fun r_7 => bdP (g_codec_Decode ([100, 49, 58, 97, 105, 49, 101, 101] : List UInt8)) (fun r_12 => bd (g_codec_Get r_12.1 ([97] : List UInt8)) fun r_17 => bd (g_codec_Get r_12.1 ([98] : List UInt8)) fun r_19 => if (r_7.2 != 0) = true then (g_law02_sane_j1 true) else if (!(r_7.1 == ([108, 105, 45, 51, 101, 50, 58, 97, 98, 101] : List UInt8))) = true then (g_law02_sane_j1 true) else if (r_12.2 != 0) = true then (g_law02_sane_j1 true) else if (!(r_17.2)) = true then (g_law02_sane_j1 true) else if (r_19.2) = true then (g_law02_sane_j1 true) else if (r_17.1.k != 1) = true then (g_law02_sane_j1 true) else if (r_17.1.n != 1) = true then (g_law02_sane_j1 true) else bd (g_codec_Same 60 r_12.1 r_12.1) fun r_47 => if (!(r_47)) = true then (g_law02_sane_j1 true) else bd (g_codec_Same 60 r_12.1 r_17.1) fun r_50 => g_law02_sane_j1 (r_50)) (some (.inr ()))) (some (.inr ()))
noncomputable def g_law02_CodecLists_j2 (l_1 : List Val) (l_10 : List UInt8) : Option ((Bool) ⊕ Unit) :=
  bd (g_ref02_List l_1) fun r_11 => bdP (g_codec_Encode r_11) (fun r_13 => if (r_13.2 != 0) = true then (some (.inl (r_13.2 == 2))) else ck (((l_10.length + ([101] : List UInt8).length : Nat) : Int) ≤ 9223372036854775807) <| some (.inl (r_13.1 == (l_10 ++ ([101] : List UInt8))))) (some (.inr ()))
noncomputable def g_law02_CodecLists_l3 (l_1 : List Val) (v : Nat × (List UInt8)) : Option ((Nat × (List UInt8)) ⊕ ((Bool) ⊕ Unit)) :=
  match v with | (v_20, l_21) => if (decide (((v_20 : Nat) : Int) < ((l_1.length : Nat) : Int))) = true then (gn l_1 v_20 fun x_25 => bdP (g_codec_Encode x_25) (fun r_29 => if (r_29.2 != 0) = true then (bd (g_ref02_List l_1) fun r_35 => bdP (g_codec_Encode r_35) (fun r_37 => up (some (.inl (r_37.2 != 0)))) (up (some (.inr ())))) else ck (l_21.length + r_29.1.length ≤ 140737488355328) <| ckI (((v_20 : Nat) : Int) + 1) <| some (.inl (v_20 + 1, (l_21 ++ r_29.1)))) (up (some (.inr ())))) else up (g_law02_CodecLists_j2 l_1 l_21)
noncomputable def g_law02_CodecLists_j1 (l_1 : List Val) (v_8 : Bool) : Option ((Bool) ⊕ Unit) :=
  if (v_8) = true then (some (.inl true)) else loopO (g_law02_CodecLists_l3 l_1) (0, ([108] : List UInt8))
noncomputable def g_law02_CodecLists (l_1 : List Val) : Option ((Bool) ⊕ Unit) :=
  bdP (g_law02_sane) (fun r_2 => if (!(r_2)) = true then (some (.inl false)) else bd (g_law02_few l_1) fun r_44 => if (!(r_44)) = true then (g_law02_CodecLists_j1 l_1 true) else g_law02_CodecLists_j1 l_1 (decide (((l_1.length : Nat) : Int) > 20))) (some (.inr ()))
noncomputable def g_law02_CodecKeys_j3 (r_17 : Val × Int) (other_2 : List UInt8) (has_24 : Bool) : Option ((Bool) ⊕ Unit) :=
  bd (g_codec_Get r_17.1 other_2) fun r_25 => some (.inl (((r_25.2) == (has_24))))
noncomputable def g_law02_CodecKeys_j5 (v_28 : Nat) (other_2 : List UInt8) (v_1 : Val) (r_17 : Val × Int) (has_32 : Bool) : Option ((Bool × Nat) ⊕ ((Bool) ⊕ Unit)) :=
  ckI (((v_28 : Nat) : Int) + 1) <| some (.inl ((has_32), v_28 + 1))
noncomputable def g_law02_CodecKeys_j6 (has_27 : Bool) (v_28 : Nat) (other_2 : List UInt8) (v_1 : Val) (r_17 : Val × Int) (x_34 : (List UInt8)) (v_40 : Bool) : Option ((Bool × Nat) ⊕ ((Bool) ⊕ Unit)) :=
  if (v_40) = true then (up (some (.inl false))) else if (has_27) = true then (g_law02_CodecKeys_j5 v_28 other_2 v_1 r_17 true) else g_law02_CodecKeys_j5 v_28 other_2 v_1 r_17 (x_34 == other_2)
noncomputable def g_law02_CodecKeys_l4 (v_1 : Val) (r_17 : Val × Int) (other_2 : List UInt8) (v : Bool × Nat) : Option ((Bool × Nat) ⊕ ((Bool) ⊕ Unit)) :=
  match v with | (has_27, v_28) => if (decide (((v_28 : Nat) : Int) < ((v_1.ks.length : Nat) : Int))) = true then (gn v_1.ks v_28 fun x_34 => bd (g_codec_Get r_17.1 x_34) fun r_38 => if (!(r_38.2)) = true then (g_law02_CodecKeys_j6 has_27 v_28 other_2 v_1 r_17 x_34 true) else gn v_1.l v_28 fun x_44 => bd (g_codec_Same 60 r_38.1 x_44) fun r_48 => g_law02_CodecKeys_j6 has_27 v_28 other_2 v_1 r_17 x_34 (!(r_48))) else up (g_law02_CodecKeys_j3 r_17 other_2 (has_27))
noncomputable def g_law02_CodecKeys_j2 (v_1 : Val) (r_17 : Val × Int) (other_2 : List UInt8) (v_22 : Bool) : Option ((Bool) ⊕ Unit) :=
  if (v_22) = true then (some (.inl false)) else loopO (g_law02_CodecKeys_l4 v_1 r_17 other_2) (false, 0)
noncomputable def g_law02_CodecKeys_j1 (v_1 : Val) (other_2 : List UInt8) (v_9 : Bool) : Option ((Bool) ⊕ Unit) :=
  if (v_9) = true then (some (.inl true)) else bdP (g_codec_Encode v_1) (fun r_11 => if (r_11.2 != 0) = true then (some (.inl true)) else bdP (g_codec_Decode r_11.1) (fun r_17 => if (r_17.2 != 0) = true then (g_law02_CodecKeys_j2 v_1 r_17 other_2 true) else g_law02_CodecKeys_j2 v_1 r_17 other_2 (((v_1.ks.length : Nat) : Int) != ((v_1.l.length : Nat) : Int))) (some (.inr ()))) (some (.inr ()))
noncomputable def g_law02_CodecKeys (v_1 : Val) (other_2 : List UInt8) : Option ((Bool) ⊕ Unit) :=
  bdP (g_law02_sane) (fun r_3 => if (!(r_3)) = true then (some (.inl false)) else bd (g_law02_few ([v_1])) fun r_51 => if (!(r_51)) = true then (g_law02_CodecKeys_j1 v_1 other_2 true) else if (decide (((other_2.length : Nat) : Int) > 200)) = true then (g_law02_CodecKeys_j1 v_1 other_2 true) else g_law02_CodecKeys_j1 v_1 other_2 (v_1.k != 4)) (some (.inr ()))
end Go.Proofs.YtimalbkjflfdoaaDoor

/-
  Go functions as partial functions, printed by auto.py: what each returns when its partial function has a value. Conditions: those of each theorem.
-/
namespace Go.Proofs.YtimalbkjflfdoaaDoor
open Go.DL
set_option maxRecDepth 100000
set_option maxHeartbeats 4000000
set_option linter.unusedVariables false
set_option linter.unusedSimpArgs false
theorem g_law02_sane_ret {r : (Bool) ⊕ Unit} (h : g_law02_sane = some r) : CT Tryd.prog 10 3 [] [(0, (.obj (tabP Tryd.prog))), (1, (.obj (errP 1))), (2, (.obj (errP 2)))] (CoR 3 ghosts (fun x => ((db (x)), [(0, (.obj (tabP Tryd.prog))), (1, (.obj (errP 1))), (2, (.obj (errP 2)))])) (.iface 29 (.int .i64 20)) r) := by
  refine CT.of_T Tryd.func10 (by kernel_rfl) rfl ?_
  refine T_turn [] [] [] (mk 94 [] [(0, (.obj (tabP Tryd.prog))), (1, (.obj (errP 1))), (2, (.obj (errP 2)))]) (by kernel_rfl) ?_
  refine T_reg [] [] [] (mk 94 [] [(0, (.obj (tabP Tryd.prog))), (1, (.obj (errP 1))), (2, (.obj (errP 2)))]) _ (by kernel_rfl) (z2 zt) ?_
  obtain ⟨r_1, e2, h⟩ := bd_inv h
  obtain ⟨r_3, e4, h⟩ := bd_inv h
  refine T_seq (T_parts ?_)
  refine TL_part 2 [(zd (ndcVal r_1)), (zd (ndcVal r_3))] (mk 94 [(14, (.agg (qVal r_1))), (15, (.agg (qVal r_3)))] [(0, (.obj (tabP Tryd.prog))), (1, (.obj (errP 1))), (2, (.obj (errP 2)))]) _ (by kernel_rfl) (z1 (zc (g_ref02_Int_ret e2) (z1 (zc (g_ref02_Text_ret e4) zt)))) rfl ?_
  refine TL_part 1 [] (mk 94 [(14, (.agg (qVal r_1))), (15, (.agg (qVal r_3))), (16, (ow 19))] [(19, (.row 25 5 [ndcVal r_1, ndcVal r_3])), (0, (.obj (tabP Tryd.prog))), (1, (.obj (errP 1))), (2, (.obj (errP 2)))]) _ (by kernel_rfl) (z1 (zc (show dfill (fun i => some (i * 5, 5)) (List.replicate (2 * 5) .junk) [(0, [(.dat (I r_1.k)), (.dat (I r_1.n)), (.dat (.str r_1.s)), (.dat (.sl 5 (r_1.l.map encVal))), (.dat (.sl 1 (r_1.ks.map elStr)))]), (1, [(.dat (I r_3.k)), (.dat (I r_3.n)), (.dat (.str r_3.s)), (.dat (.sl 5 (r_3.l.map encVal))), (.dat (.sl 1 (r_3.ks.map elStr)))])] = some ((flat [ndcVal r_1, ndcVal r_3]).map .dat) from rfl) zt)) rfl ?_
  refine TL_turn [] [14, 15, 16] [] (mk 94 [(14, (.agg (qVal r_1))), (15, (.agg (qVal r_3))), (16, (ow 19))] [(19, (.row 25 5 ([r_1, r_3].map encVal))), (0, (.obj (tabP Tryd.prog))), (1, (.obj (errP 1))), (2, (.obj (errP 2)))]) (by rw [show [r_1, r_3].map encVal = [ndcVal r_1, ndcVal r_3] from by simp only [List.map_cons, List.map_nil, encVal_nd]]; kernel_rfl) ?_
  obtain ⟨r_5, e6, h⟩ := bd_inv h
  refine TL_turn [19] [14, 15, 16] [] (mk 94 [(14, (.agg (qVal r_1))), (15, (.agg (qVal r_3))), (16, (dt (.sl 5 ([r_1, r_3].map encVal))))] [(0, (.obj (tabP Tryd.prog))), (1, (.obj (errP 1))), (2, (.obj (errP 2)))]) (by kernel_rfl) ?_
  refine TL_part 1 [(zd (ndcVal r_5))] (mk 94 [(14, (.agg (qVal r_1))), (15, (.agg (qVal r_3))), (16, (dt (.sl 5 ([r_1, r_3].map encVal)))), (17, (.agg (qVal r_5)))] [(0, (.obj (tabP Tryd.prog))), (1, (.obj (errP 1))), (2, (.obj (errP 2)))]) _ (by kernel_rfl) (z1 (zc (g_ref02_List_ret e6) zt)) rfl ?_
  obtain ⟨y8, e9, hk10, hz11⟩ := bdP_inv h
  refine TL_ct 12 [0, 1, 2] 100003 _ _ [] (g_codec_Encode_ret e9) rfl rfl (by kernel_rfl) (by kernel_rfl) (by kernel_rfl) (by kernel_rfl) (fun l bx' hR => ?_) (fun d bx' hR => ?_)
  obtain ⟨r_7, rfl, rfl, rfl⟩ := CoR_ret hR
  replace h := hk10 _ rfl
  refine TL_turn [] [18] [] (mk 94 [(18, (.tup [(false, [(.dat (.sl 1 (r_7.1.map elB)))]), (false, [(.dat (I r_7.2))])]))] [(0, (.obj (tabP Tryd.prog))), (1, (.obj (errP 1))), (2, (.obj (errP 2)))]) (by kernel_rfl) ?_
  refine TL_part 5 [] (mk 94 [(1, (dt (.sl 1 (r_7.1.map elB)))), (2, (di r_7.2)), (13, (.tup [(false, [(.dat (.sl 1 (r_7.1.map elB)))]), (false, [(.dat (I r_7.2))])])), (18, (.tup [(false, [(.dat (.sl 1 (r_7.1.map elB)))]), (false, [(.dat (I r_7.2))])])), (19, (dt (.sl 1 (r_7.1.map elB)))), (20, (di r_7.2))] [(0, (.obj (tabP Tryd.prog))), (1, (.obj (errP 1))), (2, (.obj (errP 2)))]) _ (by kernel_rfl) (z8 (z2 zt)) rfl ?_
  refine TL_nilQ ?_
  refine T_turn [] [1, 2] [] (mk 94 [(1, (dt (.sl 1 (r_7.1.map elB)))), (2, (di r_7.2))] [(0, (.obj (tabP Tryd.prog))), (1, (.obj (errP 1))), (2, (.obj (errP 2)))]) (by kernel_rfl) ?_
  refine T_seq (T_parts ?_)
  refine TL_part 1 [] (mk 94 [(1, (dt (.sl 1 (r_7.1.map elB)))), (2, (di r_7.2)), (22, (ow 25))] [(25, (.row 5 1 (([100, 49, 58, 97, 105, 49, 101, 101] : List UInt8).map elB))), (0, (.obj (tabP Tryd.prog))), (1, (.obj (errP 1))), (2, (.obj (errP 2)))]) _ (by kernel_rfl) (z1 (zc (show dfill (fun i => some (i * 1, 1)) (List.replicate (8 * 1) .junk) [(0, [(.dat (.int .u8 100))]), (1, [(.dat (.int .u8 49))]), (2, [(.dat (.int .u8 58))]), (3, [(.dat (.int .u8 97))]), (4, [(.dat (.int .u8 105))]), (5, [(.dat (.int .u8 49))]), (6, [(.dat (.int .u8 101))]), (7, [(.dat (.int .u8 101))])] = some ((flat (([100, 49, 58, 97, 105, 49, 101, 101] : List UInt8).map elB)).map .dat) from rfl) zt)) rfl ?_
  refine TL_mark 28 5 23 25 ([100, 49, 58, 97, 105, 49, 101, 101] : List UInt8) rfl rfl rfl (by kernel_rfl) (by kernel_rfl) (by kernel_rfl) (by kernel_rfl) (by decide) ?_
  refine TL_turn [] [1, 2, 23] [] (mk 94 [(1, (dt (.sl 1 (r_7.1.map elB)))), (2, (di r_7.2)), (23, (ow 25))] [(25, (.obj (rowM 5 (([100, 49, 58, 97, 105, 49, 101, 101] : List UInt8))))), (0, (.obj (tabP Tryd.prog))), (1, (.obj (errP 1))), (2, (.obj (errP 2)))]) (by kernel_rfl) ?_
  refine TL_frzM (e := 5) (bs := ([100, 49, 58, 97, 105, 49, 101, 101] : List UInt8)) 25 (mk 94 [(1, (dt (.sl 1 (r_7.1.map elB)))), (2, (di r_7.2)), (23, (dt (.sl 1 (([100, 49, 58, 97, 105, 49, 101, 101] : List UInt8).map elB))))] [(0, (.obj (tabP Tryd.prog))), (1, (.obj (errP 1))), (2, (.obj (errP 2)))]) (by kernel_rfl) (by kernel_rfl) ?_
  obtain ⟨y13, e14, hk15, hz16⟩ := bdP_inv h
  refine TL_ct 16 [0, 1, 2] 100003 _ _ [] (g_codec_Decode_ret e14) rfl rfl (by kernel_rfl) (by kernel_rfl) (by kernel_rfl) (by kernel_rfl) (fun l bx' hR => ?_) (fun d bx' hR => ?_)
  obtain ⟨r_12, rfl, rfl, rfl⟩ := CoR_ret hR
  replace h := hk15 _ rfl
  refine TL_turn [] [1, 2, 24] [] (mk 94 [(1, (dt (.sl 1 (r_7.1.map elB)))), (2, (di r_7.2)), (24, (.tup [(true, (qVal r_12.1)), (false, [(.dat (I r_12.2))])]))] [(0, (.obj (tabP Tryd.prog))), (1, (.obj (errP 1))), (2, (.obj (errP 2)))]) (by kernel_rfl) ?_
  refine TL_part 6 [] (mk 94 [(1, (dt (.sl 1 (r_7.1.map elB)))), (2, (di r_7.2)), (3, (rf 6 0)), (4, (di r_12.2)), (21, (.tup [(true, (qVal r_12.1)), (false, [(.dat (I r_12.2))])])), (24, (.tup [(true, (qVal r_12.1)), (false, [(.dat (I r_12.2))])])), (25, (.agg (qVal r_12.1))), (26, (di r_12.2))] [(6, (.var (qVal r_12.1))), (0, (.obj (tabP Tryd.prog))), (1, (.obj (errP 1))), (2, (.obj (errP 2)))]) _ (by kernel_rfl) (z8 (z4 zt)) rfl ?_
  refine TL_nilQ ?_
  refine T_turn [] [1, 2, 3, 4] [] (mk 94 [(1, (dt (.sl 1 (r_7.1.map elB)))), (2, (di r_7.2)), (3, (rf 6 0)), (4, (di r_12.2))] [(6, (.var (qVal r_12.1))), (0, (.obj (tabP Tryd.prog))), (1, (.obj (errP 1))), (2, (.obj (errP 2)))]) (by kernel_rfl) ?_
  obtain ⟨r_17, e18, h⟩ := bd_inv h
  refine T_reg [zn, (zd (.tup [(ndcVal r_17.1), (B (r_17.2))]))] [1, 2, 3, 4, 5, 6] [] (mk 94 [(1, (dt (.sl 1 (r_7.1.map elB)))), (2, (di r_7.2)), (3, (rf 6 0)), (4, (di r_12.2)), (5, (rf 8 0)), (6, (db (r_17.2)))] [(8, (.var (qVal r_17.1))), (6, (.var (qVal r_12.1))), (0, (.obj (tabP Tryd.prog))), (1, (.obj (errP 1))), (2, (.obj (errP 2)))]) _ (by kernel_rfl) (z3 (zc (g_codec_Get_ret e18) (z8 (z4 zt)))) ?_
  obtain ⟨r_19, e20, h⟩ := bd_inv h
  refine T_reg [zn, (zd (.tup [(ndcVal r_19.1), (B (r_19.2))]))] [1, 2, 3, 4, 5, 6, 8] [10] (mk 94 [(1, (dt (.sl 1 (r_7.1.map elB)))), (2, (di r_7.2)), (3, (rf 6 0)), (4, (di r_12.2)), (5, (rf 8 0)), (6, (db (r_17.2))), (8, (db (r_19.2)))] [(8, (.var (qVal r_17.1))), (6, (.var (qVal r_12.1))), (0, (.obj (tabP Tryd.prog))), (1, (.obj (errP 1))), (2, (.obj (errP 2)))]) _ (by kernel_rfl) (z3 (zc (g_codec_Get_ret e20) (z8 (z4 zt)))) ?_
  refine T_seq ?_
  refine T_seqJ (α := Bool) (fun (v_21 : Bool) => (mk 94 [(75, (db (v_21)))] [(0, (.obj (tabP Tryd.prog))), (1, (.obj (errP 1))), (2, (.obj (errP 2)))])) (fun (v_21 : Bool) => g_law02_sane_j1 v_21 = some r) (fun v_21 h => ?_) ?_
  refine T_cond (v_21) (by kernel_rfl) (fun b22 => ?_) (fun b22 => ?_)
  replace h := ite_t b22 h
  refine T_reg [] [0] [] (mk 94 [(0, (db false))] [(0, (.obj (tabP Tryd.prog))), (1, (.obj (errP 1))), (2, (.obj (errP 2)))]) _ (by kernel_rfl) (z2 zt) ?_
  refine T_arr [] [0] [] [0, 1, 2] (mk 94 [(0, (db false))] [(0, (.obj (tabP Tryd.prog))), (1, (.obj (errP 1))), (2, (.obj (errP 2)))]) (by kernel_rfl) ?_
  refine T_ret ?_
  obtain rfl := some_inv h
  exact ⟨[(db false)], by kernel_rfl, rfl⟩
  replace h := ite_f b22 h
  refine T_skip ?_
  refine T_seqJ (α := Unit) (fun (_ : Unit) => (mk 94 [] [(0, (.obj (tabP Tryd.prog))), (1, (.obj (errP 1))), (2, (.obj (errP 2)))])) (fun (_ : Unit) => g_law02_sane_j2 = some r) (fun v h => ?_) ?_
  obtain ⟨r_23, e24, h⟩ := bd_inv h
  refine T_reg [zn, (zd (I r_23))] [0] [] (mk 94 [(0, (db (r_23 == 1)))] [(0, (.obj (tabP Tryd.prog))), (1, (.obj (errP 1))), (2, (.obj (errP 2)))]) _ (by kernel_rfl) (z3 (zc (show Ret Tryd.prog 14 [(.agg [(I 0), (I 0), (.str ([] : List UInt8)), nilS, nilS])] (I r_23) from (Ret.weak (g_codec_Check_ret e24) ⟨(Weak.agg ⟨Weak.refl _, Weak.refl _, Weak.refl _, Weak.nil 5, Weak.nil 1, trivial⟩), trivial⟩)) (z4 zt))) ?_
  refine T_arr [] [0] [] [0, 1, 2] (mk 94 [(0, (db (r_23 == 1)))] [(0, (.obj (tabP Tryd.prog))), (1, (.obj (errP 1))), (2, (.obj (errP 2)))]) (by kernel_rfl) ?_
  refine T_ret ?_
  obtain rfl := some_inv h
  exact ⟨[(db (r_23 == 1))], by kernel_rfl, rfl⟩
  refine T_reg [zn, (zd (I ((([([105, 45, 48, 101] : List UInt8), ([105, 48, 51, 101] : List UInt8), ([48, 49, 58, 97] : List UInt8), ([100, 49, 58, 98, 105, 49, 101, 49, 58, 97, 105, 50, 101, 101] : List UInt8), ([105, 51, 101, 32] : List UInt8), ([] : List UInt8)]).length : Nat) : Int)))] [76, 77, 78] [] (mk 94 [(76, (ow 79)), (77, (di ((([([105, 45, 48, 101] : List UInt8), ([105, 48, 51, 101] : List UInt8), ([48, 49, 58, 97] : List UInt8), ([100, 49, 58, 98, 105, 49, 101, 49, 58, 97, 105, 50, 101, 101] : List UInt8), ([105, 51, 101, 32] : List UInt8), ([] : List UInt8)]).length : Nat) : Int))), (78, (di 0))] [(79, (.row 9 1 ([([105, 45, 48, 101] : List UInt8), ([105, 48, 51, 101] : List UInt8), ([48, 49, 58, 97] : List UInt8), ([100, 49, 58, 98, 105, 49, 101, 49, 58, 97, 105, 50, 101, 101] : List UInt8), ([105, 51, 101, 32] : List UInt8), ([] : List UInt8)].map elStr))), (0, (.obj (tabP Tryd.prog))), (1, (.obj (errP 1))), (2, (.obj (errP 2)))]) _ (by kernel_rfl) (z1 (zc (show dfill (fun i => some (i * 1, 1)) (List.replicate (6 * 1) .junk) [(0, [(.dat (.str ([105, 45, 48, 101] : List UInt8)))]), (1, [(.dat (.str ([105, 48, 51, 101] : List UInt8)))]), (2, [(.dat (.str ([48, 49, 58, 97] : List UInt8)))]), (3, [(.dat (.str ([100, 49, 58, 98, 105, 49, 101, 49, 58, 97, 105, 50, 101, 101] : List UInt8)))]), (4, [(.dat (.str ([105, 51, 101, 32] : List UInt8)))]), (5, [(.dat (.str ([] : List UInt8)))])] = some ((flat ([([105, 45, 48, 101] : List UInt8), ([105, 48, 51, 101] : List UInt8), ([48, 49, 58, 97] : List UInt8), ([100, 49, 58, 98, 105, 49, 101, 49, 58, 97, 105, 50, 101, 101] : List UInt8), ([105, 51, 101, 32] : List UInt8), ([] : List UInt8)].map elStr)).map .dat) from rfl) (z1 (zc (len_s elStr ([([105, 45, 48, 101] : List UInt8), ([105, 48, 51, 101] : List UInt8), ([48, 49, 58, 97] : List UInt8), ([100, 49, 58, 98, 105, 49, 101, 49, 58, 97, 105, 50, 101, 101] : List UInt8), ([105, 51, 101, 32] : List UInt8), ([] : List UInt8)])) (z2 zt))))) ?_
  refine T_block ?_
  refine T_arr [] [76, 77, 78] [] [0, 1, 2, 79] _ (by kernel_rfl) (T_loopO (σ := Nat) (fun (v_25 : Nat) => (mk 94 [(76, (ow 79)), (77, (di ((([([105, 45, 48, 101] : List UInt8), ([105, 48, 51, 101] : List UInt8), ([48, 49, 58, 97] : List UInt8), ([100, 49, 58, 98, 105, 49, 101, 49, 58, 97, 105, 50, 101, 101] : List UInt8), ([105, 51, 101, 32] : List UInt8), ([] : List UInt8)]).length : Nat) : Int))), (78, (di ((v_25 : Nat) : Int)))] [(0, (.obj (tabP Tryd.prog))), (1, (.obj (errP 1))), (2, (.obj (errP 2))), (79, (.row 9 1 ([([105, 45, 48, 101] : List UInt8), ([105, 48, 51, 101] : List UInt8), ([48, 49, 58, 97] : List UInt8), ([100, 49, 58, 98, 105, 49, 101, 49, 58, 97, 105, 50, 101, 101] : List UInt8), ([105, 51, 101, 32] : List UInt8), ([] : List UInt8)].map elStr)))])) (g_law02_sane_l3) 0 h (fun v_25 y1 hy1 h => ?_))
  refine T_reg [] [76, 77, 78, 79] [] (mk 94 [(76, (ow 79)), (77, (di ((([([105, 45, 48, 101] : List UInt8), ([105, 48, 51, 101] : List UInt8), ([48, 49, 58, 97] : List UInt8), ([100, 49, 58, 98, 105, 49, 101, 49, 58, 97, 105, 50, 101, 101] : List UInt8), ([105, 51, 101, 32] : List UInt8), ([] : List UInt8)]).length : Nat) : Int))), (78, (di ((v_25 : Nat) : Int))), (79, (db (decide (((v_25 : Nat) : Int) < ((([([105, 45, 48, 101] : List UInt8), ([105, 48, 51, 101] : List UInt8), ([48, 49, 58, 97] : List UInt8), ([100, 49, 58, 98, 105, 49, 101, 49, 58, 97, 105, 50, 101, 101] : List UInt8), ([105, 51, 101, 32] : List UInt8), ([] : List UInt8)]).length : Nat) : Int)))))] [(0, (.obj (tabP Tryd.prog))), (1, (.obj (errP 1))), (2, (.obj (errP 2))), (79, (.row 9 1 ([([105, 45, 48, 101] : List UInt8), ([105, 48, 51, 101] : List UInt8), ([48, 49, 58, 97] : List UInt8), ([100, 49, 58, 98, 105, 49, 101, 49, 58, 97, 105, 50, 101, 101] : List UInt8), ([105, 51, 101, 32] : List UInt8), ([] : List UInt8)].map elStr)))]) _ (by kernel_rfl) (z2 zt) ?_
  refine T_seq ?_
  refine T_cond (decide (((v_25 : Nat) : Int) < ((([([105, 45, 48, 101] : List UInt8), ([105, 48, 51, 101] : List UInt8), ([48, 49, 58, 97] : List UInt8), ([100, 49, 58, 98, 105, 49, 101, 49, 58, 97, 105, 50, 101, 101] : List UInt8), ([105, 51, 101, 32] : List UInt8), ([] : List UInt8)]).length : Nat) : Int))) (by kernel_rfl) (fun b27 => ?_) (fun b27 => ?_)
  replace h := ite_t b27 h
  refine T_skip ?_
  refine T_seq ?_
  refine T_block ?_
  obtain ⟨x_28, e29, e30, e31, h⟩ := gn_inv elStr h
  refine T_reg [zn, (zd (.str x_28))] [10, 76, 77, 78] [] (mk 94 [(10, (dt (.str x_28))), (76, (ow 79)), (77, (di ((([([105, 45, 48, 101] : List UInt8), ([105, 48, 51, 101] : List UInt8), ([48, 49, 58, 97] : List UInt8), ([100, 49, 58, 98, 105, 49, 101, 49, 58, 97, 105, 50, 101, 101] : List UInt8), ([105, 51, 101, 32] : List UInt8), ([] : List UInt8)]).length : Nat) : Int))), (78, (di ((v_25 : Nat) : Int)))] [(0, (.obj (tabP Tryd.prog))), (1, (.obj (errP 1))), (2, (.obj (errP 2))), (79, (.row 9 1 ([([105, 45, 48, 101] : List UInt8), ([105, 48, 51, 101] : List UInt8), ([48, 49, 58, 97] : List UInt8), ([100, 49, 58, 98, 105, 49, 101, 49, 58, 97, 105, 50, 101, 101] : List UInt8), ([105, 51, 101, 32] : List UInt8), ([] : List UInt8)].map elStr)))]) _ (by kernel_rfl) (z1 (zc e30 (z1 (zc e31 (z2 zt))))) ?_
  refine T_seq (T_parts ?_)
  refine TL_part 1 [] (mk 94 [(10, (dt (.str x_28))), (76, (ow 79)), (77, (di ((([([105, 45, 48, 101] : List UInt8), ([105, 48, 51, 101] : List UInt8), ([48, 49, 58, 97] : List UInt8), ([100, 49, 58, 98, 105, 49, 101, 49, 58, 97, 105, 50, 101, 101] : List UInt8), ([105, 51, 101, 32] : List UInt8), ([] : List UInt8)]).length : Nat) : Int))), (78, (di ((v_25 : Nat) : Int))), (83, (dt (.str x_28)))] [(0, (.obj (tabP Tryd.prog))), (1, (.obj (errP 1))), (2, (.obj (errP 2))), (79, (.row 9 1 ([([105, 45, 48, 101] : List UInt8), ([105, 48, 51, 101] : List UInt8), ([48, 49, 58, 97] : List UInt8), ([100, 49, 58, 98, 105, 49, 101, 49, 58, 97, 105, 50, 101, 101] : List UInt8), ([105, 51, 101, 32] : List UInt8), ([] : List UInt8)].map elStr)))]) _ (by kernel_rfl) (z2 zt) rfl ?_
  obtain ⟨c32, h⟩ := ck_inv h
  refine TL_bytes 9 28 5 84 87 x_28 rfl rfl rfl (by kernel_rfl) (by kernel_rfl) (by kernel_rfl) (by kernel_rfl) c32 (by kernel_rfl) ?_
  refine TL_turn [] [76, 77, 78, 84] [] (mk 94 [(76, (ow 79)), (77, (di ((([([105, 45, 48, 101] : List UInt8), ([105, 48, 51, 101] : List UInt8), ([48, 49, 58, 97] : List UInt8), ([100, 49, 58, 98, 105, 49, 101, 49, 58, 97, 105, 50, 101, 101] : List UInt8), ([105, 51, 101, 32] : List UInt8), ([] : List UInt8)]).length : Nat) : Int))), (78, (di ((v_25 : Nat) : Int))), (84, (ow 87))] [(87, (.obj (rowM 5 x_28))), (0, (.obj (tabP Tryd.prog))), (1, (.obj (errP 1))), (2, (.obj (errP 2))), (79, (.row 9 1 ([([105, 45, 48, 101] : List UInt8), ([105, 48, 51, 101] : List UInt8), ([48, 49, 58, 97] : List UInt8), ([100, 49, 58, 98, 105, 49, 101, 49, 58, 97, 105, 50, 101, 101] : List UInt8), ([105, 51, 101, 32] : List UInt8), ([] : List UInt8)].map elStr)))]) (by kernel_rfl) ?_
  refine TL_frzM (e := 5) (bs := x_28) 87 (mk 94 [(76, (ow 79)), (77, (di ((([([105, 45, 48, 101] : List UInt8), ([105, 48, 51, 101] : List UInt8), ([48, 49, 58, 97] : List UInt8), ([100, 49, 58, 98, 105, 49, 101, 49, 58, 97, 105, 50, 101, 101] : List UInt8), ([105, 51, 101, 32] : List UInt8), ([] : List UInt8)]).length : Nat) : Int))), (78, (di ((v_25 : Nat) : Int))), (84, (dt (.sl 1 (x_28.map elB))))] [(0, (.obj (tabP Tryd.prog))), (1, (.obj (errP 1))), (2, (.obj (errP 2))), (79, (.row 9 1 ([([105, 45, 48, 101] : List UInt8), ([105, 48, 51, 101] : List UInt8), ([48, 49, 58, 97] : List UInt8), ([100, 49, 58, 98, 105, 49, 101, 49, 58, 97, 105, 50, 101, 101] : List UInt8), ([105, 51, 101, 32] : List UInt8), ([] : List UInt8)].map elStr)))]) (by kernel_rfl) (by kernel_rfl) ?_
  obtain ⟨y34, e35, hk36, hz37⟩ := bdP_inv h
  refine TL_ct 16 [0, 1, 2] 100003 _ _ [] (g_codec_Decode_ret e35) rfl rfl (by kernel_rfl) (by kernel_rfl) (by kernel_rfl) (by kernel_rfl) (fun l bx' hR => ?_) (fun d bx' hR => ?_)
  obtain ⟨r_33, rfl, rfl, rfl⟩ := CoR_ret hR
  replace h := hk36 _ rfl
  refine TL_turn [] [76, 77, 78, 85] [] (mk 94 [(76, (ow 79)), (77, (di ((([([105, 45, 48, 101] : List UInt8), ([105, 48, 51, 101] : List UInt8), ([48, 49, 58, 97] : List UInt8), ([100, 49, 58, 98, 105, 49, 101, 49, 58, 97, 105, 50, 101, 101] : List UInt8), ([105, 51, 101, 32] : List UInt8), ([] : List UInt8)]).length : Nat) : Int))), (78, (di ((v_25 : Nat) : Int))), (85, (.tup [(true, (qVal r_33.1)), (false, [(.dat (I r_33.2))])]))] [(79, (.row 9 1 ([([105, 45, 48, 101] : List UInt8), ([105, 48, 51, 101] : List UInt8), ([48, 49, 58, 97] : List UInt8), ([100, 49, 58, 98, 105, 49, 101, 49, 58, 97, 105, 50, 101, 101] : List UInt8), ([105, 51, 101, 32] : List UInt8), ([] : List UInt8)].map elStr))), (0, (.obj (tabP Tryd.prog))), (1, (.obj (errP 1))), (2, (.obj (errP 2)))]) (by kernel_rfl) ?_
  refine TL_part 6 [] (mk 94 [(11, (rf 14 0)), (12, (di r_33.2)), (76, (ow 79)), (77, (di ((([([105, 45, 48, 101] : List UInt8), ([105, 48, 51, 101] : List UInt8), ([48, 49, 58, 97] : List UInt8), ([100, 49, 58, 98, 105, 49, 101, 49, 58, 97, 105, 50, 101, 101] : List UInt8), ([105, 51, 101, 32] : List UInt8), ([] : List UInt8)]).length : Nat) : Int))), (78, (di ((v_25 : Nat) : Int))), (82, (.tup [(true, (qVal r_33.1)), (false, [(.dat (I r_33.2))])])), (85, (.tup [(true, (qVal r_33.1)), (false, [(.dat (I r_33.2))])])), (86, (.agg (qVal r_33.1))), (87, (di r_33.2))] [(14, (.var (qVal r_33.1))), (79, (.row 9 1 ([([105, 45, 48, 101] : List UInt8), ([105, 48, 51, 101] : List UInt8), ([48, 49, 58, 97] : List UInt8), ([100, 49, 58, 98, 105, 49, 101, 49, 58, 97, 105, 50, 101, 101] : List UInt8), ([105, 51, 101, 32] : List UInt8), ([] : List UInt8)].map elStr))), (0, (.obj (tabP Tryd.prog))), (1, (.obj (errP 1))), (2, (.obj (errP 2)))]) _ (by kernel_rfl) (z8 (z4 zt)) rfl ?_
  refine TL_nilQ ?_
  refine T_turn [] [12, 76, 77, 78] [14] (mk 94 [(12, (di r_33.2)), (76, (ow 79)), (77, (di ((([([105, 45, 48, 101] : List UInt8), ([105, 48, 51, 101] : List UInt8), ([48, 49, 58, 97] : List UInt8), ([100, 49, 58, 98, 105, 49, 101, 49, 58, 97, 105, 50, 101, 101] : List UInt8), ([105, 51, 101, 32] : List UInt8), ([] : List UInt8)]).length : Nat) : Int))), (78, (di ((v_25 : Nat) : Int)))] [(79, (.row 9 1 ([([105, 45, 48, 101] : List UInt8), ([105, 48, 51, 101] : List UInt8), ([48, 49, 58, 97] : List UInt8), ([100, 49, 58, 98, 105, 49, 101, 49, 58, 97, 105, 50, 101, 101] : List UInt8), ([105, 51, 101, 32] : List UInt8), ([] : List UInt8)].map elStr))), (0, (.obj (tabP Tryd.prog))), (1, (.obj (errP 1))), (2, (.obj (errP 2)))]) (by kernel_rfl) ?_
  refine T_reg [] [76, 77, 78, 89] [] (mk 94 [(76, (ow 79)), (77, (di ((([([105, 45, 48, 101] : List UInt8), ([105, 48, 51, 101] : List UInt8), ([48, 49, 58, 97] : List UInt8), ([100, 49, 58, 98, 105, 49, 101, 49, 58, 97, 105, 50, 101, 101] : List UInt8), ([105, 51, 101, 32] : List UInt8), ([] : List UInt8)]).length : Nat) : Int))), (78, (di ((v_25 : Nat) : Int))), (89, (db (r_33.2 != 20)))] [(79, (.row 9 1 ([([105, 45, 48, 101] : List UInt8), ([105, 48, 51, 101] : List UInt8), ([48, 49, 58, 97] : List UInt8), ([100, 49, 58, 98, 105, 49, 101, 49, 58, 97, 105, 50, 101, 101] : List UInt8), ([105, 51, 101, 32] : List UInt8), ([] : List UInt8)].map elStr))), (0, (.obj (tabP Tryd.prog))), (1, (.obj (errP 1))), (2, (.obj (errP 2)))]) _ (by kernel_rfl) (z4 zt) ?_
  refine T_cond (r_33.2 != 20) (by kernel_rfl) (fun b38 => ?_) (fun b38 => ?_)
  replace h := ite_t b38 h
  refine T_reg [] [0] [79] (mk 94 [(0, (db false))] [(0, (.obj (tabP Tryd.prog))), (1, (.obj (errP 1))), (2, (.obj (errP 2)))]) _ (by kernel_rfl) (z2 zt) ?_
  refine T_arr [] [0] [] [0, 1, 2] (mk 94 [(0, (db false))] [(0, (.obj (tabP Tryd.prog))), (1, (.obj (errP 1))), (2, (.obj (errP 2)))]) (by kernel_rfl) ?_
  refine T_ret ?_
  replace h := up_inv h hy1
  obtain rfl := some_inv h
  exact ⟨[(db false)], by kernel_rfl, rfl⟩
  replace h := ite_f b38 h
  refine T_skip ?_
  obtain ⟨c39, h⟩ := ckI_inv h
  exact T_regJ [(zd (I ((v_25 + 1 : Nat) : Int)))] [] [76, 77, 78] [] [0, 1, 2, 79] _ _ (by kernel_rfl) (z1 (zc c39 (z2 zt))) (fun s hs => Exists.intro (v_25 + 1) (And.intro h hs))
  obtain ⟨rfl, rfl, hlk⟩ := CoR_pan hR
  replace h := hz37 rfl
  replace h := up_inv h hy1
  obtain rfl := some_inv h
  exact (show _ ∧ _ from ⟨rfl, ⟨_, rfl, lk3 ((after_lk (by kernel_rfl) rfl).trans (by rw [hlk 0 (by decide)]; kernel_rfl)) ((after_lk (by kernel_rfl) rfl).trans (by rw [hlk 1 (by decide)]; kernel_rfl)) ((after_lk (by kernel_rfl) rfl).trans (by rw [hlk 2 (by decide)]; kernel_rfl))⟩⟩)
  replace h := ite_f b27 h
  refine T_exit ?_
  replace h := up_inv h hy1
  exact Exists.intro () (And.intro h (arr [] [] [79] [0, 1, 2] (by kernel_rfl)))
  rcases Bool.eq_false_or_eq_true (r_7.2 != 0) with b40 | b40
  replace h := ite_t b40 h
  exact T_regJ [zn, zn, zn, zg, zg, zg, (zd (B true)), zn, zg, zg, (zd (B true)), zn, zg, zg, (zd (B true)), zn, zg, (zd (B true)), zn, zg, zg, zg, (zd (B true)), zn, zg, zg, zg, (zd (B true)), zn, zg, zg, zg, zg, (zd (B true)), zn, zg, zg, zg, (zd (B true))] [] [75] [8, 6] [0, 1, 2] _ _ (by kernel_rfl) (z6 (zc (gd_tf b40) (zc (gd_tf b40) (zc (gd_tf b40) (z1 (zc b40 (z2 (zc (gd_tf (rfl : true = true)) (zc (gd_tf (rfl : true = true)) (z1 (zc (rfl : true = true) (z2 (zc (gd_tf (rfl : true = true)) (zc (gd_tf (rfl : true = true)) (z1 (zc (rfl : true = true) (z2 (zc (gd_tf (rfl : true = true)) (z1 (zc (rfl : true = true) (z2 (zc (gd_tf (rfl : true = true)) (zc (gd_tf (rfl : true = true)) (zc (gd_tf (rfl : true = true)) (z1 (zc (rfl : true = true) (z2 (zc (gd_tf (rfl : true = true)) (zc (gd_tf (rfl : true = true)) (zc (gd_tf (rfl : true = true)) (z1 (zc (rfl : true = true) (z2 (zc (gd_tf (rfl : true = true)) (zc (gd_tf (rfl : true = true)) (zc (gd_tf (rfl : true = true)) (zc (gd_tf (rfl : true = true)) (z1 (zc (rfl : true = true) (z2 (zc (gd_tf (rfl : true = true)) (zc (gd_tf (rfl : true = true)) (zc (gd_tf (rfl : true = true)) (z1 (zc (rfl : true = true) zt))))))))))))))))))))))))))))))))))))))))))))) (fun s hs => Exists.intro true (And.intro h hs))
  replace h := ite_f b40 h
  rcases Bool.eq_false_or_eq_true (!(r_7.1 == ([108, 105, 45, 51, 101, 50, 58, 97, 98, 101] : List UInt8))) with b41 | b41
  replace h := ite_t b41 h
  exact T_regJ [zn, zn, zn, zn, (zd (.str r_7.1)), zn, (zd (B false)), zn, zg, zg, (zd (B true)), zn, zg, zg, (zd (B true)), zn, zg, (zd (B true)), zn, zg, zg, zg, (zd (B true)), zn, zg, zg, zg, (zd (B true)), zn, zg, zg, zg, zg, (zd (B true)), zn, zg, zg, zg, (zd (B true))] [] [75] [8, 6] [0, 1, 2] _ _ (by kernel_rfl) (z6 (zc (gd_ff b40) (z1 (zc (gd_ff b40) (zc (rfl : r_7.1.map elB = r_7.1.map elB) (zc (gd_ff b40) (z2 (zc b40 (z2 (zc (gd_tf b41) (zc (gd_tf b41) (z1 (zc b41 (z2 (zc (gd_tf (rfl : true = true)) (zc (gd_tf (rfl : true = true)) (z1 (zc (rfl : true = true) (z2 (zc (gd_tf (rfl : true = true)) (z1 (zc (rfl : true = true) (z2 (zc (gd_tf (rfl : true = true)) (zc (gd_tf (rfl : true = true)) (zc (gd_tf (rfl : true = true)) (z1 (zc (rfl : true = true) (z2 (zc (gd_tf (rfl : true = true)) (zc (gd_tf (rfl : true = true)) (zc (gd_tf (rfl : true = true)) (z1 (zc (rfl : true = true) (z2 (zc (gd_tf (rfl : true = true)) (zc (gd_tf (rfl : true = true)) (zc (gd_tf (rfl : true = true)) (zc (gd_tf (rfl : true = true)) (z1 (zc (rfl : true = true) (z2 (zc (gd_tf (rfl : true = true)) (zc (gd_tf (rfl : true = true)) (zc (gd_tf (rfl : true = true)) (z1 (zc (rfl : true = true) zt))))))))))))))))))))))))))))))))))))))))))))))) (fun s hs => Exists.intro true (And.intro h hs))
  replace h := ite_f b41 h
  rcases Bool.eq_false_or_eq_true (r_12.2 != 0) with b42 | b42
  replace h := ite_t b42 h
  exact T_regJ [zn, zn, zn, zn, (zd (.str r_7.1)), zn, (zd (B false)), zn, zn, zn, (zd (B false)), zn, zg, zg, (zd (B true)), zn, zg, (zd (B true)), zn, zg, zg, zg, (zd (B true)), zn, zg, zg, zg, (zd (B true)), zn, zg, zg, zg, zg, (zd (B true)), zn, zg, zg, zg, (zd (B true))] [] [75] [8, 6] [0, 1, 2] _ _ (by kernel_rfl) (z6 (zc (gd_ff b40) (z1 (zc (gd_ff b40) (zc (rfl : r_7.1.map elB = r_7.1.map elB) (zc (gd_ff b40) (z2 (zc b40 (z2 (zc (gd_ff b41) (z1 (zc (gd_ff b41) (z2 (zc b41 (z2 (zc (gd_tf b42) (zc (gd_tf b42) (z1 (zc b42 (z2 (zc (gd_tf (rfl : true = true)) (z1 (zc (rfl : true = true) (z2 (zc (gd_tf (rfl : true = true)) (zc (gd_tf (rfl : true = true)) (zc (gd_tf (rfl : true = true)) (z1 (zc (rfl : true = true) (z2 (zc (gd_tf (rfl : true = true)) (zc (gd_tf (rfl : true = true)) (zc (gd_tf (rfl : true = true)) (z1 (zc (rfl : true = true) (z2 (zc (gd_tf (rfl : true = true)) (zc (gd_tf (rfl : true = true)) (zc (gd_tf (rfl : true = true)) (zc (gd_tf (rfl : true = true)) (z1 (zc (rfl : true = true) (z2 (zc (gd_tf (rfl : true = true)) (zc (gd_tf (rfl : true = true)) (zc (gd_tf (rfl : true = true)) (z1 (zc (rfl : true = true) zt)))))))))))))))))))))))))))))))))))))))))))))))) (fun s hs => Exists.intro true (And.intro h hs))
  replace h := ite_f b42 h
  rcases Bool.eq_false_or_eq_true (!(r_17.2)) with b43 | b43
  replace h := ite_t b43 h
  exact T_regJ [zn, zn, zn, zn, (zd (.str r_7.1)), zn, (zd (B false)), zn, zn, zn, (zd (B false)), zn, zn, zn, (zd (B false)), zn, zg, (zd (B true)), zn, zg, zg, zg, (zd (B true)), zn, zg, zg, zg, (zd (B true)), zn, zg, zg, zg, zg, (zd (B true)), zn, zg, zg, zg, (zd (B true))] [] [75] [8, 6] [0, 1, 2] _ _ (by kernel_rfl) (z6 (zc (gd_ff b40) (z1 (zc (gd_ff b40) (zc (rfl : r_7.1.map elB = r_7.1.map elB) (zc (gd_ff b40) (z2 (zc b40 (z2 (zc (gd_ff b41) (z1 (zc (gd_ff b41) (z2 (zc b41 (z2 (zc (gd_ff b42) (z1 (zc (gd_ff b42) (z2 (zc b42 (z2 (zc (gd_tf b43) (z1 (zc b43 (z2 (zc (gd_tf (rfl : true = true)) (zc (gd_tf (rfl : true = true)) (zc (gd_tf (rfl : true = true)) (z1 (zc (rfl : true = true) (z2 (zc (gd_tf (rfl : true = true)) (zc (gd_tf (rfl : true = true)) (zc (gd_tf (rfl : true = true)) (z1 (zc (rfl : true = true) (z2 (zc (gd_tf (rfl : true = true)) (zc (gd_tf (rfl : true = true)) (zc (gd_tf (rfl : true = true)) (zc (gd_tf (rfl : true = true)) (z1 (zc (rfl : true = true) (z2 (zc (gd_tf (rfl : true = true)) (zc (gd_tf (rfl : true = true)) (zc (gd_tf (rfl : true = true)) (z1 (zc (rfl : true = true) zt))))))))))))))))))))))))))))))))))))))))))))))))) (fun s hs => Exists.intro true (And.intro h hs))
  replace h := ite_f b43 h
  rcases Bool.eq_false_or_eq_true (r_19.2) with b44 | b44
  replace h := ite_t b44 h
  exact T_regJ [zn, zn, zn, zn, (zd (.str r_7.1)), zn, (zd (B false)), zn, zn, zn, (zd (B false)), zn, zn, zn, (zd (B false)), zn, zn, (zd (B false)), zn, zg, zg, zg, (zd (B true)), zn, zg, zg, zg, (zd (B true)), zn, zg, zg, zg, zg, (zd (B true)), zn, zg, zg, zg, (zd (B true))] [] [75] [8, 6] [0, 1, 2] _ _ (by kernel_rfl) (z6 (zc (gd_ff b40) (z1 (zc (gd_ff b40) (zc (rfl : r_7.1.map elB = r_7.1.map elB) (zc (gd_ff b40) (z2 (zc b40 (z2 (zc (gd_ff b41) (z1 (zc (gd_ff b41) (z2 (zc b41 (z2 (zc (gd_ff b42) (z1 (zc (gd_ff b42) (z2 (zc b42 (z2 (zc (gd_ff b43) (z2 (zc b43 (z2 (zc (gd_tf b44) (zc (gd_tf b44) (zc (gd_tf b44) (z1 (zc b44 (z2 (zc (gd_tf (rfl : true = true)) (zc (gd_tf (rfl : true = true)) (zc (gd_tf (rfl : true = true)) (z1 (zc (rfl : true = true) (z2 (zc (gd_tf (rfl : true = true)) (zc (gd_tf (rfl : true = true)) (zc (gd_tf (rfl : true = true)) (zc (gd_tf (rfl : true = true)) (z1 (zc (rfl : true = true) (z2 (zc (gd_tf (rfl : true = true)) (zc (gd_tf (rfl : true = true)) (zc (gd_tf (rfl : true = true)) (z1 (zc (rfl : true = true) zt))))))))))))))))))))))))))))))))))))))))))))))))) (fun s hs => Exists.intro true (And.intro h hs))
  replace h := ite_f b44 h
  rcases Bool.eq_false_or_eq_true (r_17.1.k != 1) with b45 | b45
  replace h := ite_t b45 h
  exact T_regJ [zn, zn, zn, zn, (zd (.str r_7.1)), zn, (zd (B false)), zn, zn, zn, (zd (B false)), zn, zn, zn, (zd (B false)), zn, zn, (zd (B false)), zn, zn, zn, zn, (zd (B false)), zn, zg, zg, zg, (zd (B true)), zn, zg, zg, zg, zg, (zd (B true)), zn, zg, zg, zg, (zd (B true))] [] [75] [8, 6] [0, 1, 2] _ _ (by kernel_rfl) (z6 (zc (gd_ff b40) (z1 (zc (gd_ff b40) (zc (rfl : r_7.1.map elB = r_7.1.map elB) (zc (gd_ff b40) (z2 (zc b40 (z2 (zc (gd_ff b41) (z1 (zc (gd_ff b41) (z2 (zc b41 (z2 (zc (gd_ff b42) (z1 (zc (gd_ff b42) (z2 (zc b42 (z2 (zc (gd_ff b43) (z2 (zc b43 (z2 (zc (gd_ff b44) (z1 (zc (gd_ff b44) (z1 (zc (gd_ff b44) (z2 (zc b44 (z2 (zc (gd_tf b45) (zc (gd_tf b45) (zc (gd_tf b45) (z1 (zc b45 (z2 (zc (gd_tf (rfl : true = true)) (zc (gd_tf (rfl : true = true)) (zc (gd_tf (rfl : true = true)) (zc (gd_tf (rfl : true = true)) (z1 (zc (rfl : true = true) (z2 (zc (gd_tf (rfl : true = true)) (zc (gd_tf (rfl : true = true)) (zc (gd_tf (rfl : true = true)) (z1 (zc (rfl : true = true) zt))))))))))))))))))))))))))))))))))))))))))))))))))) (fun s hs => Exists.intro true (And.intro h hs))
  replace h := ite_f b45 h
  rcases Bool.eq_false_or_eq_true (r_17.1.n != 1) with b46 | b46
  replace h := ite_t b46 h
  exact T_regJ [zn, zn, zn, zn, (zd (.str r_7.1)), zn, (zd (B false)), zn, zn, zn, (zd (B false)), zn, zn, zn, (zd (B false)), zn, zn, (zd (B false)), zn, zn, zn, zn, (zd (B false)), zn, zn, zn, zn, (zd (B false)), zn, zg, zg, zg, zg, (zd (B true)), zn, zg, zg, zg, (zd (B true))] [] [75] [8, 6] [0, 1, 2] _ _ (by kernel_rfl) (z6 (zc (gd_ff b40) (z1 (zc (gd_ff b40) (zc (rfl : r_7.1.map elB = r_7.1.map elB) (zc (gd_ff b40) (z2 (zc b40 (z2 (zc (gd_ff b41) (z1 (zc (gd_ff b41) (z2 (zc b41 (z2 (zc (gd_ff b42) (z1 (zc (gd_ff b42) (z2 (zc b42 (z2 (zc (gd_ff b43) (z2 (zc b43 (z2 (zc (gd_ff b44) (z1 (zc (gd_ff b44) (z1 (zc (gd_ff b44) (z2 (zc b44 (z2 (zc (gd_ff b45) (z1 (zc (gd_ff b45) (z1 (zc (gd_ff b45) (z2 (zc b45 (z2 (zc (gd_tf b46) (zc (gd_tf b46) (zc (gd_tf b46) (zc (gd_tf b46) (z1 (zc b46 (z2 (zc (gd_tf (rfl : true = true)) (zc (gd_tf (rfl : true = true)) (zc (gd_tf (rfl : true = true)) (z1 (zc (rfl : true = true) zt))))))))))))))))))))))))))))))))))))))))))))))))))))) (fun s hs => Exists.intro true (And.intro h hs))
  replace h := ite_f b46 h
  obtain ⟨r_47, e48, h⟩ := bd_inv h
  rcases Bool.eq_false_or_eq_true (!(r_47)) with b49 | b49
  replace h := ite_t b49 h
  exact T_regJ (hl 39 [(4, (zd (.str r_7.1))), (6, (zd (B false))), (10, (zd (B false))), (14, (zd (B false))), (17, (zd (B false))), (22, (zd (B false))), (27, (zd (B false))), (31, (zd (B (r_47)))), (33, (zd (B false))), (35, zg), (36, zg), (37, zg), (38, (zd (B true)))]) [] [75] [8, 6] [0, 1, 2] _ _ (by kernel_rfl) (z6 (zc (gd_ff b40) (z1 (zc (gd_ff b40) (zc (rfl : r_7.1.map elB = r_7.1.map elB) (zc (gd_ff b40) (z2 (zc b40 (z2 (zc (gd_ff b41) (z1 (zc (gd_ff b41) (z2 (zc b41 (z2 (zc (gd_ff b42) (z1 (zc (gd_ff b42) (z2 (zc b42 (z2 (zc (gd_ff b43) (z2 (zc b43 (z2 (zc (gd_ff b44) (z1 (zc (gd_ff b44) (z1 (zc (gd_ff b44) (z2 (zc b44 (z2 (zc (gd_ff b45) (z1 (zc (gd_ff b45) (z1 (zc (gd_ff b45) (z2 (zc b45 (z2 (zc (gd_ff b46) (z1 (zc (gd_ff b46) (z1 (zc (gd_ff b46) (zc (g_codec_Same_ret e48) (zc (gd_ff b46) (z2 (zc b46 (z2 (zc (gd_tf b49) (zc (gd_tf b49) (zc (gd_tf b49) (z1 (zc b49 zt)))))))))))))))))))))))))))))))))))))))))))))))))))))))) (fun s hs => Exists.intro true (And.intro h hs))
  replace h := ite_f b49 h
  obtain ⟨r_50, e51, h⟩ := bd_inv h
  exact T_regJ (hl 39 [(4, (zd (.str r_7.1))), (6, (zd (B false))), (10, (zd (B false))), (14, (zd (B false))), (17, (zd (B false))), (22, (zd (B false))), (27, (zd (B false))), (31, (zd (B (r_47)))), (33, (zd (B false))), (37, (zd (B (r_50)))), (38, (zd (B false)))]) [] [75] [8, 6] [0, 1, 2] _ _ (by kernel_rfl) (z6 (zc (gd_ff b40) (z1 (zc (gd_ff b40) (zc (rfl : r_7.1.map elB = r_7.1.map elB) (zc (gd_ff b40) (z2 (zc b40 (z2 (zc (gd_ff b41) (z1 (zc (gd_ff b41) (z2 (zc b41 (z2 (zc (gd_ff b42) (z1 (zc (gd_ff b42) (z2 (zc b42 (z2 (zc (gd_ff b43) (z2 (zc b43 (z2 (zc (gd_ff b44) (z1 (zc (gd_ff b44) (z1 (zc (gd_ff b44) (z2 (zc b44 (z2 (zc (gd_ff b45) (z1 (zc (gd_ff b45) (z1 (zc (gd_ff b45) (z2 (zc b45 (z2 (zc (gd_ff b46) (z1 (zc (gd_ff b46) (z1 (zc (gd_ff b46) (zc (g_codec_Same_ret e48) (zc (gd_ff b46) (z2 (zc b46 (z2 (zc (gd_ff b49) (z1 (zc (gd_ff b49) (z1 (zc (gd_ff b49) (zc (g_codec_Same_ret e51) (z1 (zc b49 zt))))))))))))))))))))))))))))))))))))))))))))))))))))))))))) (fun s hs => Exists.intro (r_50) (And.intro h hs))
  obtain ⟨rfl, rfl, hlk⟩ := CoR_pan hR
  replace h := hz16 rfl
  obtain rfl := some_inv h
  exact (show _ ∧ _ from ⟨rfl, ⟨_, rfl, lk3 ((after_lk (by kernel_rfl) rfl).trans (by rw [hlk 0 (by decide)]; kernel_rfl)) ((after_lk (by kernel_rfl) rfl).trans (by rw [hlk 1 (by decide)]; kernel_rfl)) ((after_lk (by kernel_rfl) rfl).trans (by rw [hlk 2 (by decide)]; kernel_rfl))⟩⟩)
  obtain ⟨rfl, rfl, hlk⟩ := CoR_pan hR
  replace h := hz11 rfl
  obtain rfl := some_inv h
  exact (show _ ∧ _ from ⟨rfl, ⟨_, rfl, lk3 ((after_lk (by kernel_rfl) rfl).trans (by rw [hlk 0 (by decide)]; kernel_rfl)) ((after_lk (by kernel_rfl) rfl).trans (by rw [hlk 1 (by decide)]; kernel_rfl)) ((after_lk (by kernel_rfl) rfl).trans (by rw [hlk 2 (by decide)]; kernel_rfl))⟩⟩)

end Go.Proofs.YtimalbkjflfdoaaDoor

/-
  Go functions as partial functions, printed by auto.py: what each returns when its partial function has a value. Conditions: those of each theorem.
-/
namespace Go.Proofs.YtimalbkjflfdoaaDoor
open Go.DL
set_option maxRecDepth 100000
set_option maxHeartbeats 4000000
set_option linter.unusedVariables false
set_option linter.unusedSimpArgs false
theorem g_law02_CodecLists_ret {l_1 : List Val} {r : (Bool) ⊕ Unit} (h : g_law02_CodecLists l_1 = some r) : CT Tryd.prog 8 3 [(dt (.sl 5 (l_1.map encVal)))] [(0, (.obj (tabP Tryd.prog))), (1, (.obj (errP 1))), (2, (.obj (errP 2)))] (CoR 3 ghosts (fun x => ((db (x)), [(0, (.obj (tabP Tryd.prog))), (1, (.obj (errP 1))), (2, (.obj (errP 2)))])) (.iface 29 (.int .i64 20)) r) := by
  refine CT.of_T Tryd.func8 (by kernel_rfl) rfl ?_
  refine T_turn [] [0] [] (mk 65 [(0, (dt (.sl 5 (l_1.map encVal))))] [(0, (.obj (tabP Tryd.prog))), (1, (.obj (errP 1))), (2, (.obj (errP 2)))]) (by kernel_rfl) ?_
  refine T_reg [] [0] [] (mk 65 [(0, (dt (.sl 5 (l_1.map encVal))))] [(0, (.obj (tabP Tryd.prog))), (1, (.obj (errP 1))), (2, (.obj (errP 2)))]) _ (by kernel_rfl) (z2 zt) ?_
  refine T_seq ?_
  refine T_seq (T_parts ?_)
  obtain ⟨y3, e4, hk5, hz6⟩ := bdP_inv h
  refine TL_ct 10 [0, 1, 2] 100003 _ _ [] (g_law02_sane_ret e4) rfl rfl (by kernel_rfl) (by kernel_rfl) (by kernel_rfl) (by kernel_rfl) (fun l bx' hR => ?_) (fun d bx' hR => ?_)
  obtain ⟨r_2, rfl, rfl, rfl⟩ := CoR_ret hR
  replace h := hk5 _ rfl
  refine TL_turn [] [0, 12] [] (mk 65 [(0, (dt (.sl 5 (l_1.map encVal)))), (12, (db (r_2)))] [(0, (.obj (tabP Tryd.prog))), (1, (.obj (errP 1))), (2, (.obj (errP 2)))]) (by kernel_rfl) ?_
  refine TL_part 1 [] (mk 65 [(0, (dt (.sl 5 (l_1.map encVal)))), (12, (db (r_2))), (13, (db (!(r_2))))] [(0, (.obj (tabP Tryd.prog))), (1, (.obj (errP 1))), (2, (.obj (errP 2)))]) _ (by kernel_rfl) (z2 zt) rfl ?_
  refine TL_nilQ ?_
  refine T_turn [] [0, 13] [] (mk 65 [(0, (dt (.sl 5 (l_1.map encVal)))), (13, (db (!(r_2))))] [(0, (.obj (tabP Tryd.prog))), (1, (.obj (errP 1))), (2, (.obj (errP 2)))]) (by kernel_rfl) ?_
  refine T_cond (!(r_2)) (by kernel_rfl) (fun b7 => ?_) (fun b7 => ?_)
  replace h := ite_t b7 h
  refine T_reg [] [2] [] (mk 65 [(2, (db false))] [(0, (.obj (tabP Tryd.prog))), (1, (.obj (errP 1))), (2, (.obj (errP 2)))]) _ (by kernel_rfl) (z2 zt) ?_
  refine T_arr [] [2] [] [0, 1, 2] (mk 65 [(2, (db false))] [(0, (.obj (tabP Tryd.prog))), (1, (.obj (errP 1))), (2, (.obj (errP 2)))]) (by kernel_rfl) ?_
  refine T_ret ?_
  obtain rfl := some_inv h
  exact ⟨[(db false)], by kernel_rfl, rfl⟩
  replace h := ite_f b7 h
  refine T_skip ?_
  refine T_seq ?_
  refine T_seqJ (α := Bool) (fun (v_8 : Bool) => (mk 65 [(0, (dt (.sl 5 (l_1.map encVal)))), (21, (db (v_8)))] [(0, (.obj (tabP Tryd.prog))), (1, (.obj (errP 1))), (2, (.obj (errP 2)))])) (fun (v_8 : Bool) => g_law02_CodecLists_j1 l_1 v_8 = some r) (fun v_8 h => ?_) ?_
  refine T_cond (v_8) (by kernel_rfl) (fun b9 => ?_) (fun b9 => ?_)
  replace h := ite_t b9 h
  refine T_reg [] [2] [] (mk 65 [(2, (db true))] [(0, (.obj (tabP Tryd.prog))), (1, (.obj (errP 1))), (2, (.obj (errP 2)))]) _ (by kernel_rfl) (z2 zt) ?_
  refine T_arr [] [2] [] [0, 1, 2] (mk 65 [(2, (db true))] [(0, (.obj (tabP Tryd.prog))), (1, (.obj (errP 1))), (2, (.obj (errP 2)))]) (by kernel_rfl) ?_
  refine T_ret ?_
  obtain rfl := some_inv h
  exact ⟨[(db true)], by kernel_rfl, rfl⟩
  replace h := ite_f b9 h
  refine T_skip ?_
  refine T_seq (T_parts ?_)
  refine TL_part 1 [] (mk 65 [(0, (dt (.sl 5 (l_1.map encVal)))), (21, (db (v_8))), (22, (ow 25))] [(25, (.row 5 1 (([108] : List UInt8).map elB))), (0, (.obj (tabP Tryd.prog))), (1, (.obj (errP 1))), (2, (.obj (errP 2)))]) _ (by kernel_rfl) (z1 (zc (show dfill (fun i => some (i * 1, 1)) (List.replicate (1 * 1) .junk) [(0, [(.dat (.int .u8 108))])] = some ((flat (([108] : List UInt8).map elB)).map .dat) from rfl) zt)) rfl ?_
  refine TL_mark 28 5 23 25 ([108] : List UInt8) rfl rfl rfl (by kernel_rfl) (by kernel_rfl) (by kernel_rfl) (by kernel_rfl) (by decide) ?_
  refine TL_turn [] [0, 23] [] (mk 65 [(0, (dt (.sl 5 (l_1.map encVal)))), (23, (ow 25))] [(25, (.obj (rowM 5 (([108] : List UInt8))))), (0, (.obj (tabP Tryd.prog))), (1, (.obj (errP 1))), (2, (.obj (errP 2)))]) (by kernel_rfl) ?_
  refine TL_part 1 [] (mk 65 [(0, (dt (.sl 5 (l_1.map encVal)))), (3, (ow 25)), (23, (ow 25))] [(25, (.obj (rowM 5 (([108] : List UInt8))))), (0, (.obj (tabP Tryd.prog))), (1, (.obj (errP 1))), (2, (.obj (errP 2)))]) _ (by kernel_rfl) (z2 zt) rfl ?_
  refine TL_nilQ ?_
  refine T_turn [] [0, 3] [] (mk 65 [(0, (dt (.sl 5 (l_1.map encVal)))), (3, (ow 25))] [(25, (.obj (rowM 5 (([108] : List UInt8))))), (0, (.obj (tabP Tryd.prog))), (1, (.obj (errP 1))), (2, (.obj (errP 2)))]) (by kernel_rfl) ?_
  refine T_seqJ (α := List UInt8) (fun (l_10 : List UInt8) => (mk 65 [(0, (dt (.sl 5 (l_1.map encVal)))), (3, (ow 25))] [(0, (.obj (tabP Tryd.prog))), (1, (.obj (errP 1))), (2, (.obj (errP 2))), (25, (.obj (rowM 5 l_10)))])) (fun (l_10 : List UInt8) => g_law02_CodecLists_j2 l_1 l_10 = some r) (fun l_10 h => ?_) ?_
  obtain ⟨r_11, e12, h⟩ := bd_inv h
  refine T_seq (T_parts ?_)
  refine TL_part 2 [zn, (zd (ndcVal r_11))] (mk 65 [(0, (dt (.sl 5 (l_1.map encVal)))), (3, (ow 25)), (50, (dt (.sl 5 (l_1.map encVal)))), (51, (.agg (qVal r_11)))] [(0, (.obj (tabP Tryd.prog))), (1, (.obj (errP 1))), (2, (.obj (errP 2))), (25, (.obj (rowM 5 l_10)))]) _ (by kernel_rfl) (z3 (zc (g_ref02_List_ret e12) zt)) rfl ?_
  obtain ⟨y14, e15, hk16, hz17⟩ := bdP_inv h
  refine TL_ct 12 [0, 1, 2] 100003 _ _ [] (g_codec_Encode_ret e15) rfl rfl (by kernel_rfl) (by kernel_rfl) (by kernel_rfl) (by kernel_rfl) (fun l bx' hR => ?_) (fun d bx' hR => ?_)
  obtain ⟨r_13, rfl, rfl, rfl⟩ := CoR_ret hR
  replace h := hk16 _ rfl
  refine TL_turn [] [3, 52] [] (mk 65 [(3, (ow 25)), (52, (.tup [(false, [(.dat (.sl 1 (r_13.1.map elB)))]), (false, [(.dat (I r_13.2))])]))] [(25, (.obj (rowM 5 l_10))), (0, (.obj (tabP Tryd.prog))), (1, (.obj (errP 1))), (2, (.obj (errP 2)))]) (by kernel_rfl) ?_
  refine TL_part 5 [] (mk 65 [(3, (ow 25)), (10, (dt (.sl 1 (r_13.1.map elB)))), (11, (di r_13.2)), (49, (.tup [(false, [(.dat (.sl 1 (r_13.1.map elB)))]), (false, [(.dat (I r_13.2))])])), (52, (.tup [(false, [(.dat (.sl 1 (r_13.1.map elB)))]), (false, [(.dat (I r_13.2))])])), (53, (dt (.sl 1 (r_13.1.map elB)))), (54, (di r_13.2))] [(25, (.obj (rowM 5 l_10))), (0, (.obj (tabP Tryd.prog))), (1, (.obj (errP 1))), (2, (.obj (errP 2)))]) _ (by kernel_rfl) (z8 (z2 zt)) rfl ?_
  refine TL_nilQ ?_
  refine T_turn [] [3, 10, 11] [] (mk 65 [(3, (ow 25)), (10, (dt (.sl 1 (r_13.1.map elB)))), (11, (di r_13.2))] [(25, (.obj (rowM 5 l_10))), (0, (.obj (tabP Tryd.prog))), (1, (.obj (errP 1))), (2, (.obj (errP 2)))]) (by kernel_rfl) ?_
  refine T_seq ?_
  refine T_reg [] [3, 10, 11, 56] [] (mk 65 [(3, (ow 25)), (10, (dt (.sl 1 (r_13.1.map elB)))), (11, (di r_13.2)), (56, (db (r_13.2 != 0)))] [(25, (.obj (rowM 5 l_10))), (0, (.obj (tabP Tryd.prog))), (1, (.obj (errP 1))), (2, (.obj (errP 2)))]) _ (by kernel_rfl) (z4 zt) ?_
  refine T_cond (r_13.2 != 0) (by kernel_rfl) (fun b18 => ?_) (fun b18 => ?_)
  replace h := ite_t b18 h
  refine T_reg [] [2] [25] (mk 65 [(2, (db (r_13.2 == 2)))] [(0, (.obj (tabP Tryd.prog))), (1, (.obj (errP 1))), (2, (.obj (errP 2)))]) _ (by kernel_rfl) (z6 zt) ?_
  refine T_arr [] [2] [] [0, 1, 2] (mk 65 [(2, (db (r_13.2 == 2)))] [(0, (.obj (tabP Tryd.prog))), (1, (.obj (errP 1))), (2, (.obj (errP 2)))]) (by kernel_rfl) ?_
  refine T_ret ?_
  obtain rfl := some_inv h
  exact ⟨[(db (r_13.2 == 2))], by kernel_rfl, rfl⟩
  replace h := ite_f b18 h
  refine T_skip ?_
  refine T_seq (T_parts ?_)
  refine TL_part 3 [zn, (zd (.str r_13.1))] (mk 65 [(3, (ow 25)), (10, (dt (.sl 1 (r_13.1.map elB)))), (11, (di r_13.2)), (56, (db (r_13.2 != 0))), (59, (dt (.sl 1 (r_13.1.map elB)))), (60, (dt (.str r_13.1))), (61, (ow 25))] [(25, (.obj (rowM 5 l_10))), (0, (.obj (tabP Tryd.prog))), (1, (.obj (errP 1))), (2, (.obj (errP 2)))]) _ (by kernel_rfl) (z3 (zc (rfl : r_13.1.map elB = r_13.1.map elB) (z2 zt))) rfl ?_
  refine TL_frzM (e := 5) (bs := l_10) 25 (mk 65 [(3, (dt (.sl 1 (l_10.map elB)))), (10, (dt (.sl 1 (r_13.1.map elB)))), (11, (di r_13.2)), (56, (db (r_13.2 != 0))), (59, (dt (.sl 1 (r_13.1.map elB)))), (60, (dt (.str r_13.1))), (61, (dt (.sl 1 (l_10.map elB))))] [(0, (.obj (tabP Tryd.prog))), (1, (.obj (errP 1))), (2, (.obj (errP 2)))]) (by kernel_rfl) (by kernel_rfl) ?_
  obtain ⟨c19, h⟩ := ck_inv h
  refine TL_part 4 [(zd (.str l_10))] (mk 65 [(2, (db (r_13.1 == (l_10 ++ ([101] : List UInt8))))), (3, (dt (.sl 1 (l_10.map elB)))), (10, (dt (.sl 1 (r_13.1.map elB)))), (11, (di r_13.2)), (56, (db (r_13.2 != 0))), (59, (dt (.sl 1 (r_13.1.map elB)))), (60, (dt (.str r_13.1))), (61, (dt (.sl 1 (l_10.map elB)))), (62, (dt (.str l_10))), (63, (dt (.str (l_10 ++ ([101] : List UInt8))))), (64, (db (r_13.1 == (l_10 ++ ([101] : List UInt8)))))] [(0, (.obj (tabP Tryd.prog))), (1, (.obj (errP 1))), (2, (.obj (errP 2)))]) _ (by kernel_rfl) (z1 (zc (rfl : l_10.map elB = l_10.map elB) (z1 (zc c19 (z4 zt))))) rfl ?_
  refine TL_nilQ ?_
  refine T_turn [] [2] [] (mk 65 [(2, (db (r_13.1 == (l_10 ++ ([101] : List UInt8)))))] [(0, (.obj (tabP Tryd.prog))), (1, (.obj (errP 1))), (2, (.obj (errP 2)))]) (by kernel_rfl) ?_
  refine T_arr [] [2] [] [0, 1, 2] (mk 65 [(2, (db (r_13.1 == (l_10 ++ ([101] : List UInt8)))))] [(0, (.obj (tabP Tryd.prog))), (1, (.obj (errP 1))), (2, (.obj (errP 2)))]) (by kernel_rfl) ?_
  refine T_ret ?_
  obtain rfl := some_inv h
  exact ⟨[(db (r_13.1 == (l_10 ++ ([101] : List UInt8))))], by kernel_rfl, rfl⟩
  obtain ⟨rfl, rfl, hlk⟩ := CoR_pan hR
  replace h := hz17 rfl
  obtain rfl := some_inv h
  exact (show _ ∧ _ from ⟨rfl, ⟨_, rfl, lk3 ((after_lk (by kernel_rfl) rfl).trans (by rw [hlk 0 (by decide)]; kernel_rfl)) ((after_lk (by kernel_rfl) rfl).trans (by rw [hlk 1 (by decide)]; kernel_rfl)) ((after_lk (by kernel_rfl) rfl).trans (by rw [hlk 2 (by decide)]; kernel_rfl))⟩⟩)
  refine T_reg [zn, (zd (I ((l_1.length : Nat) : Int)))] [0, 3, 24, 25, 26] [] (mk 65 [(0, (dt (.sl 5 (l_1.map encVal)))), (3, (ow 25)), (24, (dt (.sl 5 (l_1.map encVal)))), (25, (di ((l_1.length : Nat) : Int))), (26, (di 0))] [(25, (.obj (rowM 5 (([108] : List UInt8))))), (0, (.obj (tabP Tryd.prog))), (1, (.obj (errP 1))), (2, (.obj (errP 2)))]) _ (by kernel_rfl) (z3 (zc (len_s encVal l_1) (z2 zt))) ?_
  refine T_block ?_
  refine T_arr [] [0, 3, 24, 25, 26] [] [0, 1, 2, 25] _ (by kernel_rfl) (T_loopO (σ := Nat × (List UInt8)) (fun ((v_20, l_21) : Nat × (List UInt8)) => (mk 65 [(0, (dt (.sl 5 (l_1.map encVal)))), (3, (ow 25)), (24, (dt (.sl 5 (l_1.map encVal)))), (25, (di ((l_1.length : Nat) : Int))), (26, (di ((v_20 : Nat) : Int)))] [(0, (.obj (tabP Tryd.prog))), (1, (.obj (errP 1))), (2, (.obj (errP 2))), (25, (.obj (rowM 5 l_21)))])) (g_law02_CodecLists_l3 l_1) (0, ([108] : List UInt8)) h (fun v y1 hy1 h => ?_))
  obtain ⟨v_20, l_21⟩ := v
  refine T_reg [] [0, 3, 24, 25, 26, 27] [] (mk 65 [(0, (dt (.sl 5 (l_1.map encVal)))), (3, (ow 25)), (24, (dt (.sl 5 (l_1.map encVal)))), (25, (di ((l_1.length : Nat) : Int))), (26, (di ((v_20 : Nat) : Int))), (27, (db (decide (((v_20 : Nat) : Int) < ((l_1.length : Nat) : Int)))))] [(0, (.obj (tabP Tryd.prog))), (1, (.obj (errP 1))), (2, (.obj (errP 2))), (25, (.obj (rowM 5 l_21)))]) _ (by kernel_rfl) (z2 zt) ?_
  refine T_seq ?_
  refine T_cond (decide (((v_20 : Nat) : Int) < ((l_1.length : Nat) : Int))) (by kernel_rfl) (fun b24 => ?_) (fun b24 => ?_)
  replace h := ite_t b24 h
  refine T_skip ?_
  refine T_seq ?_
  refine T_block ?_
  obtain ⟨x_25, e26, e27, e28, h⟩ := gn_invE encVal ndcVal encVal_nd h
  refine T_reg [(zd (ndcVal x_25))] [0, 3, 5, 24, 25, 26] [] (mk 65 [(0, (dt (.sl 5 (l_1.map encVal)))), (3, (ow 25)), (5, (rf 8 0)), (24, (dt (.sl 5 (l_1.map encVal)))), (25, (di ((l_1.length : Nat) : Int))), (26, (di ((v_20 : Nat) : Int)))] [(8, (.var (qVal x_25))), (0, (.obj (tabP Tryd.prog))), (1, (.obj (errP 1))), (2, (.obj (errP 2))), (25, (.obj (rowM 5 l_21)))]) _ (by kernel_rfl) (z1 (zc e26 (z6 zt))) ?_
  refine T_seq (T_parts ?_)
  refine TL_part 1 [] (mk 65 [(0, (dt (.sl 5 (l_1.map encVal)))), (3, (ow 25)), (5, (rf 8 0)), (24, (dt (.sl 5 (l_1.map encVal)))), (25, (di ((l_1.length : Nat) : Int))), (26, (di ((v_20 : Nat) : Int))), (31, (.agg (qVal x_25)))] [(8, (.var (qVal x_25))), (0, (.obj (tabP Tryd.prog))), (1, (.obj (errP 1))), (2, (.obj (errP 2))), (25, (.obj (rowM 5 l_21)))]) _ (by kernel_rfl) (z2 zt) rfl ?_
  obtain ⟨y30, e31, hk32, hz33⟩ := bdP_inv h
  refine TL_ct 12 [0, 1, 2] 100003 _ _ [] (g_codec_Encode_ret e31) rfl rfl (by kernel_rfl) (by kernel_rfl) (by kernel_rfl) (by kernel_rfl) (fun l bx' hR => ?_) (fun d bx' hR => ?_)
  obtain ⟨r_29, rfl, rfl, rfl⟩ := CoR_ret hR
  replace h := hk32 _ rfl
  refine TL_turn [] [0, 3, 24, 25, 26, 32] [8] (mk 65 [(0, (dt (.sl 5 (l_1.map encVal)))), (3, (ow 25)), (24, (dt (.sl 5 (l_1.map encVal)))), (25, (di ((l_1.length : Nat) : Int))), (26, (di ((v_20 : Nat) : Int))), (32, (.tup [(false, [(.dat (.sl 1 (r_29.1.map elB)))]), (false, [(.dat (I r_29.2))])]))] [(25, (.obj (rowM 5 l_21))), (0, (.obj (tabP Tryd.prog))), (1, (.obj (errP 1))), (2, (.obj (errP 2)))]) (by kernel_rfl) ?_
  refine TL_part 5 [] (mk 65 [(0, (dt (.sl 5 (l_1.map encVal)))), (3, (ow 25)), (6, (dt (.sl 1 (r_29.1.map elB)))), (7, (di r_29.2)), (24, (dt (.sl 5 (l_1.map encVal)))), (25, (di ((l_1.length : Nat) : Int))), (26, (di ((v_20 : Nat) : Int))), (30, (.tup [(false, [(.dat (.sl 1 (r_29.1.map elB)))]), (false, [(.dat (I r_29.2))])])), (32, (.tup [(false, [(.dat (.sl 1 (r_29.1.map elB)))]), (false, [(.dat (I r_29.2))])])), (33, (dt (.sl 1 (r_29.1.map elB)))), (34, (di r_29.2))] [(25, (.obj (rowM 5 l_21))), (0, (.obj (tabP Tryd.prog))), (1, (.obj (errP 1))), (2, (.obj (errP 2)))]) _ (by kernel_rfl) (z8 (z2 zt)) rfl ?_
  refine TL_nilQ ?_
  refine T_turn [] [0, 3, 6, 7, 24, 25, 26] [] (mk 65 [(0, (dt (.sl 5 (l_1.map encVal)))), (3, (ow 25)), (6, (dt (.sl 1 (r_29.1.map elB)))), (7, (di r_29.2)), (24, (dt (.sl 5 (l_1.map encVal)))), (25, (di ((l_1.length : Nat) : Int))), (26, (di ((v_20 : Nat) : Int)))] [(25, (.obj (rowM 5 l_21))), (0, (.obj (tabP Tryd.prog))), (1, (.obj (errP 1))), (2, (.obj (errP 2)))]) (by kernel_rfl) ?_
  refine T_seq ?_
  refine T_reg [] [0, 3, 6, 24, 25, 26, 36] [] (mk 65 [(0, (dt (.sl 5 (l_1.map encVal)))), (3, (ow 25)), (6, (dt (.sl 1 (r_29.1.map elB)))), (24, (dt (.sl 5 (l_1.map encVal)))), (25, (di ((l_1.length : Nat) : Int))), (26, (di ((v_20 : Nat) : Int))), (36, (db (r_29.2 != 0)))] [(25, (.obj (rowM 5 l_21))), (0, (.obj (tabP Tryd.prog))), (1, (.obj (errP 1))), (2, (.obj (errP 2)))]) _ (by kernel_rfl) (z4 zt) ?_
  refine T_cond (r_29.2 != 0) (by kernel_rfl) (fun b34 => ?_) (fun b34 => ?_)
  replace h := ite_t b34 h
  obtain ⟨r_35, e36, h⟩ := bd_inv h
  refine T_seq (T_parts ?_)
  refine TL_part 2 [zn, (zd (ndcVal r_35))] (mk 65 [(0, (dt (.sl 5 (l_1.map encVal)))), (3, (ow 25)), (6, (dt (.sl 1 (r_29.1.map elB)))), (24, (dt (.sl 5 (l_1.map encVal)))), (25, (di ((l_1.length : Nat) : Int))), (26, (di ((v_20 : Nat) : Int))), (36, (db (r_29.2 != 0))), (38, (dt (.sl 5 (l_1.map encVal)))), (39, (.agg (qVal r_35)))] [(25, (.obj (rowM 5 l_21))), (0, (.obj (tabP Tryd.prog))), (1, (.obj (errP 1))), (2, (.obj (errP 2)))]) _ (by kernel_rfl) (z3 (zc (g_ref02_List_ret e36) zt)) rfl ?_
  obtain ⟨y38, e39, hk40, hz41⟩ := bdP_inv h
  refine TL_ct 12 [0, 1, 2] 100003 _ _ [] (g_codec_Encode_ret e39) rfl rfl (by kernel_rfl) (by kernel_rfl) (by kernel_rfl) (by kernel_rfl) (fun l bx' hR => ?_) (fun d bx' hR => ?_)
  obtain ⟨r_37, rfl, rfl, rfl⟩ := CoR_ret hR
  replace h := hk40 _ rfl
  refine TL_turn [] [40] [25] (mk 65 [(40, (.tup [(false, [(.dat (.sl 1 (r_37.1.map elB)))]), (false, [(.dat (I r_37.2))])]))] [(0, (.obj (tabP Tryd.prog))), (1, (.obj (errP 1))), (2, (.obj (errP 2)))]) (by kernel_rfl) ?_
  refine TL_part 5 [] (mk 65 [(8, (dt (.sl 1 (r_37.1.map elB)))), (9, (di r_37.2)), (37, (.tup [(false, [(.dat (.sl 1 (r_37.1.map elB)))]), (false, [(.dat (I r_37.2))])])), (40, (.tup [(false, [(.dat (.sl 1 (r_37.1.map elB)))]), (false, [(.dat (I r_37.2))])])), (41, (dt (.sl 1 (r_37.1.map elB)))), (42, (di r_37.2))] [(0, (.obj (tabP Tryd.prog))), (1, (.obj (errP 1))), (2, (.obj (errP 2)))]) _ (by kernel_rfl) (z8 (z2 zt)) rfl ?_
  refine TL_nilQ ?_
  refine T_turn [] [9] [] (mk 65 [(9, (di r_37.2))] [(0, (.obj (tabP Tryd.prog))), (1, (.obj (errP 1))), (2, (.obj (errP 2)))]) (by kernel_rfl) ?_
  refine T_reg [] [2] [] (mk 65 [(2, (db (r_37.2 != 0)))] [(0, (.obj (tabP Tryd.prog))), (1, (.obj (errP 1))), (2, (.obj (errP 2)))]) _ (by kernel_rfl) (z6 zt) ?_
  refine T_arr [] [2] [] [0, 1, 2] (mk 65 [(2, (db (r_37.2 != 0)))] [(0, (.obj (tabP Tryd.prog))), (1, (.obj (errP 1))), (2, (.obj (errP 2)))]) (by kernel_rfl) ?_
  refine T_ret ?_
  replace h := up_inv h hy1
  obtain rfl := some_inv h
  exact ⟨[(db (r_37.2 != 0))], by kernel_rfl, rfl⟩
  obtain ⟨rfl, rfl, hlk⟩ := CoR_pan hR
  replace h := hz41 rfl
  replace h := up_inv h hy1
  obtain rfl := some_inv h
  exact (show _ ∧ _ from ⟨rfl, ⟨_, rfl, lk3 ((after_lk (by kernel_rfl) rfl).trans (by rw [hlk 0 (by decide)]; kernel_rfl)) ((after_lk (by kernel_rfl) rfl).trans (by rw [hlk 1 (by decide)]; kernel_rfl)) ((after_lk (by kernel_rfl) rfl).trans (by rw [hlk 2 (by decide)]; kernel_rfl))⟩⟩)
  replace h := ite_f b34 h
  refine T_skip ?_
  refine T_parts ?_
  refine TL_part 2 [] (mk 65 [(0, (dt (.sl 5 (l_1.map encVal)))), (3, (ow 25)), (6, (dt (.sl 1 (r_29.1.map elB)))), (24, (dt (.sl 5 (l_1.map encVal)))), (25, (di ((l_1.length : Nat) : Int))), (26, (di ((v_20 : Nat) : Int))), (36, (db (r_29.2 != 0))), (45, (ow 25)), (46, (dt (.sl 1 (r_29.1.map elB))))] [(25, (.obj (rowM 5 l_21))), (0, (.obj (tabP Tryd.prog))), (1, (.obj (errP 1))), (2, (.obj (errP 2)))]) _ (by kernel_rfl) (z4 zt) rfl ?_
  obtain ⟨c42, h⟩ := ck_inv h
  refine TL_appM 28 28 5 47 25 50 l_21 r_29.1 rfl rfl rfl (by kernel_rfl) (by kernel_rfl) (by kernel_rfl) (by kernel_rfl) (.inl ⟨rfl, .inl (by kernel_rfl)⟩) c42 (by kernel_rfl) ?_
  refine TL_turn [] [0, 24, 25, 26, 47] [] (mk 65 [(0, (dt (.sl 5 (l_1.map encVal)))), (24, (dt (.sl 5 (l_1.map encVal)))), (25, (di ((l_1.length : Nat) : Int))), (26, (di ((v_20 : Nat) : Int))), (47, (ow 50))] [(50, (.obj (rowM 5 ((l_21 ++ r_29.1))))), (0, (.obj (tabP Tryd.prog))), (1, (.obj (errP 1))), (2, (.obj (errP 2)))]) (by kernel_rfl) ?_
  refine TL_part 1 [] (mk 65 [(0, (dt (.sl 5 (l_1.map encVal)))), (3, (ow 50)), (24, (dt (.sl 5 (l_1.map encVal)))), (25, (di ((l_1.length : Nat) : Int))), (26, (di ((v_20 : Nat) : Int))), (47, (ow 50))] [(50, (.obj (rowM 5 ((l_21 ++ r_29.1))))), (0, (.obj (tabP Tryd.prog))), (1, (.obj (errP 1))), (2, (.obj (errP 2)))]) _ (by kernel_rfl) (z2 zt) rfl ?_
  refine TL_nilQ ?_
  obtain ⟨c43, h⟩ := ckI_inv h
  exact T_regJ [(zd (I ((v_20 + 1 : Nat) : Int)))] [.ren 50 25] [0, 3, 24, 25, 26] [] [0, 1, 2, 25] _ _ (by kernel_rfl) (z1 (zc c43 (z2 zt))) (fun s hs => Exists.intro (v_20 + 1, (l_21 ++ r_29.1)) (And.intro h hs))
  obtain ⟨rfl, rfl, hlk⟩ := CoR_pan hR
  replace h := hz33 rfl
  replace h := up_inv h hy1
  obtain rfl := some_inv h
  exact (show _ ∧ _ from ⟨rfl, ⟨_, rfl, lk3 ((after_lk (by kernel_rfl) rfl).trans (by rw [hlk 0 (by decide)]; kernel_rfl)) ((after_lk (by kernel_rfl) rfl).trans (by rw [hlk 1 (by decide)]; kernel_rfl)) ((after_lk (by kernel_rfl) rfl).trans (by rw [hlk 2 (by decide)]; kernel_rfl))⟩⟩)
  replace h := ite_f b24 h
  refine T_exit ?_
  replace h := up_inv h hy1
  exact Exists.intro l_21 (And.intro h (arr [] [0, 3] [] [0, 1, 2, 25] (by kernel_rfl)))
  obtain ⟨r_44, e45, h⟩ := bd_inv h
  rcases Bool.eq_false_or_eq_true (!(r_44)) with b46 | b46
  replace h := ite_t b46 h
  exact T_regJ [zn, (zd (B (r_44))), zn, zn, zg, zg, zg, (zd (B true))] [] [0, 21] [] [0, 1, 2] _ _ (by kernel_rfl) (z3 (zc (g_law02_few_ret e45) (z4 (zc (gd_tf b46) (zc (gd_tf b46) (zc (gd_tf b46) (z1 (zc b46 zt)))))))) (fun s hs => Exists.intro true (And.intro h hs))
  replace h := ite_f b46 h
  exact T_regJ [zn, (zd (B (r_44))), zn, zn, zn, (zd (I ((l_1.length : Nat) : Int))), zn, (zd (B false))] [] [0, 21] [] [0, 1, 2] _ _ (by kernel_rfl) (z3 (zc (g_law02_few_ret e45) (z4 (zc (gd_ff b46) (z1 (zc (gd_ff b46) (zc (len_s encVal l_1) (zc (gd_ff b46) (z2 (zc b46 zt)))))))))) (fun s hs => Exists.intro (decide (((l_1.length : Nat) : Int) > 20)) (And.intro h hs))
  obtain ⟨rfl, rfl, hlk⟩ := CoR_pan hR
  replace h := hz6 rfl
  obtain rfl := some_inv h
  exact (show _ ∧ _ from ⟨rfl, ⟨_, rfl, lk3 ((after_lk (by kernel_rfl) rfl).trans (by rw [hlk 0 (by decide)]; kernel_rfl)) ((after_lk (by kernel_rfl) rfl).trans (by rw [hlk 1 (by decide)]; kernel_rfl)) ((after_lk (by kernel_rfl) rfl).trans (by rw [hlk 2 (by decide)]; kernel_rfl))⟩⟩)

theorem g_law02_CodecKeys_ret {v_1 : Val} {other_2 : List UInt8} {r : (Bool) ⊕ Unit} (h : g_law02_CodecKeys v_1 other_2 = some r) : CT Tryd.prog 9 3 [(.agg (qVal v_1)), (dt (.str other_2))] [(0, (.obj (tabP Tryd.prog))), (1, (.obj (errP 1))), (2, (.obj (errP 2)))] (CoR 3 ghosts (fun x => ((db (x)), [(0, (.obj (tabP Tryd.prog))), (1, (.obj (errP 1))), (2, (.obj (errP 2)))])) (.iface 29 (.int .i64 20)) r) := by
  refine CT.of_T Tryd.func9 (by kernel_rfl) rfl ?_
  refine T_turn [] [0, 1] [] (mk 97 [(0, (.agg (qVal v_1))), (1, (dt (.str other_2)))] [(0, (.obj (tabP Tryd.prog))), (1, (.obj (errP 1))), (2, (.obj (errP 2)))]) (by kernel_rfl) ?_
  refine T_reg [] [1, 2] [] (mk 97 [(1, (dt (.str other_2))), (2, (rf 5 0))] [(5, (.var (qVal v_1))), (0, (.obj (tabP Tryd.prog))), (1, (.obj (errP 1))), (2, (.obj (errP 2)))]) _ (by kernel_rfl) (z4 zt) ?_
  refine T_seq ?_
  refine T_seq (T_parts ?_)
  obtain ⟨y4, e5, hk6, hz7⟩ := bdP_inv h
  refine TL_ct 10 [0, 1, 2] 100003 _ _ [] (g_law02_sane_ret e5) rfl rfl (by kernel_rfl) (by kernel_rfl) (by kernel_rfl) (by kernel_rfl) (fun l bx' hR => ?_) (fun d bx' hR => ?_)
  obtain ⟨r_3, rfl, rfl, rfl⟩ := CoR_ret hR
  replace h := hk6 _ rfl
  refine TL_turn [] [1, 2, 16] [] (mk 97 [(1, (dt (.str other_2))), (2, (rf 5 0)), (16, (db (r_3)))] [(5, (.var (qVal v_1))), (0, (.obj (tabP Tryd.prog))), (1, (.obj (errP 1))), (2, (.obj (errP 2)))]) (by kernel_rfl) ?_
  refine TL_part 1 [] (mk 97 [(1, (dt (.str other_2))), (2, (rf 5 0)), (16, (db (r_3))), (17, (db (!(r_3))))] [(5, (.var (qVal v_1))), (0, (.obj (tabP Tryd.prog))), (1, (.obj (errP 1))), (2, (.obj (errP 2)))]) _ (by kernel_rfl) (z2 zt) rfl ?_
  refine TL_nilQ ?_
  refine T_turn [] [1, 2, 17] [] (mk 97 [(1, (dt (.str other_2))), (2, (rf 5 0)), (17, (db (!(r_3))))] [(5, (.var (qVal v_1))), (0, (.obj (tabP Tryd.prog))), (1, (.obj (errP 1))), (2, (.obj (errP 2)))]) (by kernel_rfl) ?_
  refine T_cond (!(r_3)) (by kernel_rfl) (fun b8 => ?_) (fun b8 => ?_)
  replace h := ite_t b8 h
  refine T_reg [] [4] [5] (mk 97 [(4, (db false))] [(0, (.obj (tabP Tryd.prog))), (1, (.obj (errP 1))), (2, (.obj (errP 2)))]) _ (by kernel_rfl) (z2 zt) ?_
  refine T_arr [] [4] [] [0, 1, 2] (mk 97 [(4, (db false))] [(0, (.obj (tabP Tryd.prog))), (1, (.obj (errP 1))), (2, (.obj (errP 2)))]) (by kernel_rfl) ?_
  refine T_ret ?_
  obtain rfl := some_inv h
  exact ⟨[(db false)], by kernel_rfl, rfl⟩
  replace h := ite_f b8 h
  refine T_skip ?_
  refine T_seq ?_
  refine T_seqJ (α := Bool) (fun (v_9 : Bool) => (mk 97 [(1, (dt (.str other_2))), (2, (rf 5 0)), (31, (db (v_9)))] [(0, (.obj (tabP Tryd.prog))), (1, (.obj (errP 1))), (2, (.obj (errP 2))), (5, (.var (qVal v_1)))])) (fun (v_9 : Bool) => g_law02_CodecKeys_j1 v_1 other_2 v_9 = some r) (fun v_9 h => ?_) ?_
  refine T_cond (v_9) (by kernel_rfl) (fun b10 => ?_) (fun b10 => ?_)
  replace h := ite_t b10 h
  refine T_reg [] [4] [5] (mk 97 [(4, (db true))] [(0, (.obj (tabP Tryd.prog))), (1, (.obj (errP 1))), (2, (.obj (errP 2)))]) _ (by kernel_rfl) (z2 zt) ?_
  refine T_arr [] [4] [] [0, 1, 2] (mk 97 [(4, (db true))] [(0, (.obj (tabP Tryd.prog))), (1, (.obj (errP 1))), (2, (.obj (errP 2)))]) (by kernel_rfl) ?_
  refine T_ret ?_
  obtain rfl := some_inv h
  exact ⟨[(db true)], by kernel_rfl, rfl⟩
  replace h := ite_f b10 h
  refine T_skip ?_
  refine T_seq (T_parts ?_)
  refine TL_part 1 [] (mk 97 [(1, (dt (.str other_2))), (2, (rf 5 0)), (31, (db (v_9))), (33, (.agg (qVal v_1)))] [(0, (.obj (tabP Tryd.prog))), (1, (.obj (errP 1))), (2, (.obj (errP 2))), (5, (.var (qVal v_1)))]) _ (by kernel_rfl) (z2 zt) rfl ?_
  obtain ⟨y12, e13, hk14, hz15⟩ := bdP_inv h
  refine TL_ct 12 [0, 1, 2] 100003 _ _ [] (g_codec_Encode_ret e13) rfl rfl (by kernel_rfl) (by kernel_rfl) (by kernel_rfl) (by kernel_rfl) (fun l bx' hR => ?_) (fun d bx' hR => ?_)
  obtain ⟨r_11, rfl, rfl, rfl⟩ := CoR_ret hR
  replace h := hk14 _ rfl
  refine TL_turn [] [1, 2, 34] [] (mk 97 [(1, (dt (.str other_2))), (2, (rf 5 0)), (34, (.tup [(false, [(.dat (.sl 1 (r_11.1.map elB)))]), (false, [(.dat (I r_11.2))])]))] [(5, (.var (qVal v_1))), (0, (.obj (tabP Tryd.prog))), (1, (.obj (errP 1))), (2, (.obj (errP 2)))]) (by kernel_rfl) ?_
  refine TL_part 5 [] (mk 97 [(1, (dt (.str other_2))), (2, (rf 5 0)), (5, (dt (.sl 1 (r_11.1.map elB)))), (6, (di r_11.2)), (32, (.tup [(false, [(.dat (.sl 1 (r_11.1.map elB)))]), (false, [(.dat (I r_11.2))])])), (34, (.tup [(false, [(.dat (.sl 1 (r_11.1.map elB)))]), (false, [(.dat (I r_11.2))])])), (35, (dt (.sl 1 (r_11.1.map elB)))), (36, (di r_11.2))] [(5, (.var (qVal v_1))), (0, (.obj (tabP Tryd.prog))), (1, (.obj (errP 1))), (2, (.obj (errP 2)))]) _ (by kernel_rfl) (z8 (z2 zt)) rfl ?_
  refine TL_nilQ ?_
  refine T_turn [] [1, 2, 5, 6] [] (mk 97 [(1, (dt (.str other_2))), (2, (rf 5 0)), (5, (dt (.sl 1 (r_11.1.map elB)))), (6, (di r_11.2))] [(5, (.var (qVal v_1))), (0, (.obj (tabP Tryd.prog))), (1, (.obj (errP 1))), (2, (.obj (errP 2)))]) (by kernel_rfl) ?_
  refine T_seq ?_
  refine T_reg [] [1, 2, 5, 38] [] (mk 97 [(1, (dt (.str other_2))), (2, (rf 5 0)), (5, (dt (.sl 1 (r_11.1.map elB)))), (38, (db (r_11.2 != 0)))] [(5, (.var (qVal v_1))), (0, (.obj (tabP Tryd.prog))), (1, (.obj (errP 1))), (2, (.obj (errP 2)))]) _ (by kernel_rfl) (z4 zt) ?_
  refine T_cond (r_11.2 != 0) (by kernel_rfl) (fun b16 => ?_) (fun b16 => ?_)
  replace h := ite_t b16 h
  refine T_reg [] [4] [5] (mk 97 [(4, (db true))] [(0, (.obj (tabP Tryd.prog))), (1, (.obj (errP 1))), (2, (.obj (errP 2)))]) _ (by kernel_rfl) (z2 zt) ?_
  refine T_arr [] [4] [] [0, 1, 2] (mk 97 [(4, (db true))] [(0, (.obj (tabP Tryd.prog))), (1, (.obj (errP 1))), (2, (.obj (errP 2)))]) (by kernel_rfl) ?_
  refine T_ret ?_
  obtain rfl := some_inv h
  exact ⟨[(db true)], by kernel_rfl, rfl⟩
  replace h := ite_f b16 h
  refine T_skip ?_
  refine T_seq (T_parts ?_)
  refine TL_part 1 [] (mk 97 [(1, (dt (.str other_2))), (2, (rf 5 0)), (5, (dt (.sl 1 (r_11.1.map elB)))), (38, (db (r_11.2 != 0))), (40, (dt (.sl 1 (r_11.1.map elB))))] [(5, (.var (qVal v_1))), (0, (.obj (tabP Tryd.prog))), (1, (.obj (errP 1))), (2, (.obj (errP 2)))]) _ (by kernel_rfl) (z2 zt) rfl ?_
  obtain ⟨y18, e19, hk20, hz21⟩ := bdP_inv h
  refine TL_ct 16 [0, 1, 2] 100003 _ _ [] (g_codec_Decode_ret e19) rfl rfl (by kernel_rfl) (by kernel_rfl) (by kernel_rfl) (by kernel_rfl) (fun l bx' hR => ?_) (fun d bx' hR => ?_)
  obtain ⟨r_17, rfl, rfl, rfl⟩ := CoR_ret hR
  replace h := hk20 _ rfl
  refine TL_turn [] [1, 2, 41] [] (mk 97 [(1, (dt (.str other_2))), (2, (rf 5 0)), (41, (.tup [(true, (qVal r_17.1)), (false, [(.dat (I r_17.2))])]))] [(5, (.var (qVal v_1))), (0, (.obj (tabP Tryd.prog))), (1, (.obj (errP 1))), (2, (.obj (errP 2)))]) (by kernel_rfl) ?_
  refine TL_part 6 [] (mk 97 [(1, (dt (.str other_2))), (2, (rf 5 0)), (7, (rf 10 0)), (8, (di r_17.2)), (39, (.tup [(true, (qVal r_17.1)), (false, [(.dat (I r_17.2))])])), (41, (.tup [(true, (qVal r_17.1)), (false, [(.dat (I r_17.2))])])), (42, (.agg (qVal r_17.1))), (43, (di r_17.2))] [(10, (.var (qVal r_17.1))), (5, (.var (qVal v_1))), (0, (.obj (tabP Tryd.prog))), (1, (.obj (errP 1))), (2, (.obj (errP 2)))]) _ (by kernel_rfl) (z8 (z4 zt)) rfl ?_
  refine TL_nilQ ?_
  refine T_turn [] [1, 2, 7, 8] [] (mk 97 [(1, (dt (.str other_2))), (2, (rf 5 0)), (7, (rf 10 0)), (8, (di r_17.2))] [(10, (.var (qVal r_17.1))), (5, (.var (qVal v_1))), (0, (.obj (tabP Tryd.prog))), (1, (.obj (errP 1))), (2, (.obj (errP 2)))]) (by kernel_rfl) ?_
  refine T_seq ?_
  refine T_seqJ (α := Bool) (fun (v_22 : Bool) => (mk 97 [(1, (dt (.str other_2))), (2, (rf 5 0)), (7, (rf 10 0)), (54, (db (v_22)))] [(0, (.obj (tabP Tryd.prog))), (1, (.obj (errP 1))), (2, (.obj (errP 2))), (5, (.var (qVal v_1))), (10, (.var (qVal r_17.1)))])) (fun (v_22 : Bool) => g_law02_CodecKeys_j2 v_1 r_17 other_2 v_22 = some r) (fun v_22 h => ?_) ?_
  refine T_cond (v_22) (by kernel_rfl) (fun b23 => ?_) (fun b23 => ?_)
  replace h := ite_t b23 h
  refine T_reg [] [4] [5, 10] (mk 97 [(4, (db false))] [(0, (.obj (tabP Tryd.prog))), (1, (.obj (errP 1))), (2, (.obj (errP 2)))]) _ (by kernel_rfl) (z2 zt) ?_
  refine T_arr [] [4] [] [0, 1, 2] (mk 97 [(4, (db false))] [(0, (.obj (tabP Tryd.prog))), (1, (.obj (errP 1))), (2, (.obj (errP 2)))]) (by kernel_rfl) ?_
  refine T_ret ?_
  obtain rfl := some_inv h
  exact ⟨[(db false)], by kernel_rfl, rfl⟩
  replace h := ite_f b23 h
  refine T_skip ?_
  refine T_reg [] [1, 2, 7, 9] [] (mk 97 [(1, (dt (.str other_2))), (2, (rf 5 0)), (7, (rf 10 0)), (9, (db false))] [(0, (.obj (tabP Tryd.prog))), (1, (.obj (errP 1))), (2, (.obj (errP 2))), (5, (.var (qVal v_1))), (10, (.var (qVal r_17.1)))]) _ (by kernel_rfl) (z2 zt) ?_
  refine T_seqJ (α := Bool) (fun (has_24 : Bool) => (mk 97 [(1, (dt (.str other_2))), (7, (rf 10 0)), (9, (db (has_24)))] [(0, (.obj (tabP Tryd.prog))), (1, (.obj (errP 1))), (2, (.obj (errP 2))), (10, (.var (qVal r_17.1)))])) (fun (has_24 : Bool) => g_law02_CodecKeys_j3 r_17 other_2 has_24 = some r) (fun has_24 h => ?_) ?_
  obtain ⟨r_25, e26, h⟩ := bd_inv h
  refine T_reg [zn, zn, (zd (.tup [(ndcVal r_25.1), (B (r_25.2))]))] [9, 15] [17, 10] (mk 97 [(9, (db (has_24))), (15, (db (r_25.2)))] [(0, (.obj (tabP Tryd.prog))), (1, (.obj (errP 1))), (2, (.obj (errP 2)))]) _ (by kernel_rfl) (z5 (zc (g_codec_Get_ret e26) (z8 (z4 zt)))) ?_
  refine T_reg [] [4] [] (mk 97 [(4, (db (((r_25.2) == (has_24)))))] [(0, (.obj (tabP Tryd.prog))), (1, (.obj (errP 1))), (2, (.obj (errP 2)))]) _ (by kernel_rfl) (z8 zt) ?_
  refine T_arr [] [4] [] [0, 1, 2] (mk 97 [(4, (db (((r_25.2) == (has_24)))))] [(0, (.obj (tabP Tryd.prog))), (1, (.obj (errP 1))), (2, (.obj (errP 2)))]) (by kernel_rfl) ?_
  refine T_ret ?_
  obtain rfl := some_inv h
  exact ⟨[(db (((r_25.2) == (has_24))))], by kernel_rfl, rfl⟩
  refine T_reg [zn, zn, (zd (I ((v_1.ks.length : Nat) : Int)))] [1, 2, 7, 9, 56, 57, 58] [] (mk 97 [(1, (dt (.str other_2))), (2, (rf 5 0)), (7, (rf 10 0)), (9, (db false)), (56, (dt (.sl 1 (v_1.ks.map elStr)))), (57, (di ((v_1.ks.length : Nat) : Int))), (58, (di 0))] [(0, (.obj (tabP Tryd.prog))), (1, (.obj (errP 1))), (2, (.obj (errP 2))), (5, (.var (qVal v_1))), (10, (.var (qVal r_17.1)))]) _ (by kernel_rfl) (z5 (zc (len_s elStr v_1.ks) (z2 zt))) ?_
  refine T_block ?_
  refine T_arr [] [1, 2, 7, 9, 56, 57, 58] [] [0, 1, 2, 5, 10] _ (by kernel_rfl) (T_loopO (σ := Bool × Nat) (fun ((has_27, v_28) : Bool × Nat) => (mk 97 [(1, (dt (.str other_2))), (2, (rf 5 0)), (7, (rf 10 0)), (9, (db (has_27))), (56, (dt (.sl 1 (v_1.ks.map elStr)))), (57, (di ((v_1.ks.length : Nat) : Int))), (58, (di ((v_28 : Nat) : Int)))] [(0, (.obj (tabP Tryd.prog))), (1, (.obj (errP 1))), (2, (.obj (errP 2))), (5, (.var (qVal v_1))), (10, (.var (qVal r_17.1)))])) (g_law02_CodecKeys_l4 v_1 r_17 other_2) (false, 0) h (fun v y1 hy1 h => ?_))
  obtain ⟨has_27, v_28⟩ := v
  refine T_reg [] [1, 2, 7, 9, 56, 57, 58, 59] [] (mk 97 [(1, (dt (.str other_2))), (2, (rf 5 0)), (7, (rf 10 0)), (9, (db (has_27))), (56, (dt (.sl 1 (v_1.ks.map elStr)))), (57, (di ((v_1.ks.length : Nat) : Int))), (58, (di ((v_28 : Nat) : Int))), (59, (db (decide (((v_28 : Nat) : Int) < ((v_1.ks.length : Nat) : Int)))))] [(0, (.obj (tabP Tryd.prog))), (1, (.obj (errP 1))), (2, (.obj (errP 2))), (5, (.var (qVal v_1))), (10, (.var (qVal r_17.1)))]) _ (by kernel_rfl) (z2 zt) ?_
  refine T_seq ?_
  refine T_cond (decide (((v_28 : Nat) : Int) < ((v_1.ks.length : Nat) : Int))) (by kernel_rfl) (fun b31 => ?_) (fun b31 => ?_)
  replace h := ite_t b31 h
  refine T_skip ?_
  refine T_seqJ (α := Bool) (fun (has_32 : Bool) => (mk 97 [(1, (dt (.str other_2))), (2, (rf 5 0)), (7, (rf 10 0)), (9, (db (has_32))), (56, (dt (.sl 1 (v_1.ks.map elStr)))), (57, (di ((v_1.ks.length : Nat) : Int))), (58, (di ((v_28 : Nat) : Int)))] [(0, (.obj (tabP Tryd.prog))), (1, (.obj (errP 1))), (2, (.obj (errP 2))), (5, (.var (qVal v_1))), (10, (.var (qVal r_17.1)))])) (fun (has_32 : Bool) => g_law02_CodecKeys_j5 v_28 other_2 v_1 r_17 has_32 = some y1) (fun has_32 h => ?_) ?_
  obtain ⟨c33, h⟩ := ckI_inv h
  exact T_regJ [(zd (I ((v_28 + 1 : Nat) : Int)))] [] [1, 2, 7, 9, 56, 57, 58] [] [0, 1, 2, 5, 10] _ _ (by kernel_rfl) (z1 (zc c33 (z2 zt))) (fun s hs => Exists.intro ((has_32), v_28 + 1) (And.intro h hs))
  refine T_block ?_
  obtain ⟨x_34, e35, e36, e37, h⟩ := gn_inv elStr h
  refine T_reg [zn, (zd (.str x_34))] [1, 2, 7, 9, 10, 11, 56, 57, 58] [] (mk 97 [(1, (dt (.str other_2))), (2, (rf 5 0)), (7, (rf 10 0)), (9, (db (has_27))), (10, (di ((v_28 : Nat) : Int))), (11, (dt (.str x_34))), (56, (dt (.sl 1 (v_1.ks.map elStr)))), (57, (di ((v_1.ks.length : Nat) : Int))), (58, (di ((v_28 : Nat) : Int)))] [(0, (.obj (tabP Tryd.prog))), (1, (.obj (errP 1))), (2, (.obj (errP 2))), (5, (.var (qVal v_1))), (10, (.var (qVal r_17.1)))]) _ (by kernel_rfl) (z3 (zc e35 (z6 zt))) ?_
  obtain ⟨r_38, e39, h⟩ := bd_inv h
  refine T_reg [zn, zn, (zd (.tup [(ndcVal r_38.1), (B (r_38.2))]))] [1, 2, 7, 9, 10, 11, 12, 13, 56, 57, 58] [] (mk 97 [(1, (dt (.str other_2))), (2, (rf 5 0)), (7, (rf 10 0)), (9, (db (has_27))), (10, (di ((v_28 : Nat) : Int))), (11, (dt (.str x_34))), (12, (rf 15 0)), (13, (db (r_38.2))), (56, (dt (.sl 1 (v_1.ks.map elStr)))), (57, (di ((v_1.ks.length : Nat) : Int))), (58, (di ((v_28 : Nat) : Int)))] [(15, (.var (qVal r_38.1))), (0, (.obj (tabP Tryd.prog))), (1, (.obj (errP 1))), (2, (.obj (errP 2))), (5, (.var (qVal v_1))), (10, (.var (qVal r_17.1)))]) _ (by kernel_rfl) (z5 (zc (g_codec_Get_ret e39) (z8 (z4 zt)))) ?_
  refine T_seq ?_
  refine T_seqJ (α := Bool) (fun (v_40 : Bool) => (mk 97 [(1, (dt (.str other_2))), (2, (rf 5 0)), (7, (rf 10 0)), (9, (db (has_27))), (11, (dt (.str x_34))), (56, (dt (.sl 1 (v_1.ks.map elStr)))), (57, (di ((v_1.ks.length : Nat) : Int))), (58, (di ((v_28 : Nat) : Int))), (80, (db (v_40)))] [(0, (.obj (tabP Tryd.prog))), (1, (.obj (errP 1))), (2, (.obj (errP 2))), (5, (.var (qVal v_1))), (10, (.var (qVal r_17.1)))])) (fun (v_40 : Bool) => g_law02_CodecKeys_j6 has_27 v_28 other_2 v_1 r_17 x_34 v_40 = some y1) (fun v_40 h => ?_) ?_
  refine T_cond (v_40) (by kernel_rfl) (fun b41 => ?_) (fun b41 => ?_)
  replace h := ite_t b41 h
  refine T_reg [] [4] [5, 10] (mk 97 [(4, (db false))] [(0, (.obj (tabP Tryd.prog))), (1, (.obj (errP 1))), (2, (.obj (errP 2)))]) _ (by kernel_rfl) (z2 zt) ?_
  refine T_arr [] [4] [] [0, 1, 2] (mk 97 [(4, (db false))] [(0, (.obj (tabP Tryd.prog))), (1, (.obj (errP 1))), (2, (.obj (errP 2)))]) (by kernel_rfl) ?_
  refine T_ret ?_
  replace h := up_inv h hy1
  obtain rfl := some_inv h
  exact ⟨[(db false)], by kernel_rfl, rfl⟩
  replace h := ite_f b41 h
  refine T_skip ?_
  rcases Bool.eq_false_or_eq_true (has_27) with b42 | b42
  replace h := ite_t b42 h
  exact T_regJ [zn, zn, zg, zg, zg, (zd (B true))] [] [1, 2, 7, 9, 56, 57, 58] [] [0, 1, 2, 5, 10] _ _ (by kernel_rfl) (z4 (zc (gd_tf b42) (zc (gd_tf b42) (zc (gd_tf b42) (z1 (zc b42 (z2 zt))))))) (fun s hs => Exists.intro true (And.intro h hs))
  replace h := ite_f b42 h
  exact T_regJ (hl 6 [(5, (zd (B false)))]) [] [1, 2, 7, 9, 56, 57, 58] [] [0, 1, 2, 5, 10] _ _ (by kernel_rfl) (z4 (zc (gd_ff b42) (z1 (zc (gd_ff b42) (z1 (zc (gd_ff b42) (z2 (zc b42 (z2 zt))))))))) (fun s hs => Exists.intro (x_34 == other_2) (And.intro h hs))
  rcases Bool.eq_false_or_eq_true (!(r_38.2)) with b43 | b43
  replace h := ite_t b43 h
  exact T_regJD 12 [zn, zn, zn, zg, zg, zg, zg, zg, zg, zg, zg, (zd (B true))] [] [1, 2, 7, 9, 11, 56, 57, 58, 80] [15] [0, 1, 2, 5, 10] _ _ (by kernel_rfl) (by kernel_rfl) (by kernel_rfl) (zc (z6 (zc (gd_tf b43) (zc (gd_tf b43) (zc (gd_tf b43) (zc (gd_tf b43) (zc (gd_tf b43) (zc (gd_tf b43) (zc (gd_tf b43) (zc (gd_tf b43) (z1 (zc b43 zt))))))))))) zt) (fun s hs => Exists.intro true (And.intro h hs))
  replace h := ite_f b43 h
  obtain ⟨x_44, e45, e46, e47, h⟩ := gn_invE encVal ndcVal encVal_nd h
  obtain ⟨r_48, e49, h⟩ := bd_inv h
  exact T_regJD 12 (hl 12 [(7, (zd (ndcVal x_44))), (9, (zd (B (r_48)))), (11, (zd (B false)))]) [] [1, 2, 7, 9, 11, 56, 57, 58, 80] [15] [0, 1, 2, 5, 10] _ _ (by kernel_rfl) (by kernel_rfl) (by kernel_rfl) (zc (z6 (zc (gd_ff b43) (z1 (zc (gd_ff b43) (z1 (zc (gd_ff b43) (z1 (zc (gd_ff b43) (z1 (zc (gd_ff b43) (zc e45 (zc (gd_ff b43) (z1 (zc (gd_ff b43) (zc (g_codec_Same_ret e49) (zc (gd_ff b43) (z2 (zc b43 zt)))))))))))))))))) zt) (fun s hs => Exists.intro (!(r_48)) (And.intro h hs))
  replace h := ite_f b31 h
  refine T_exit ?_
  replace h := up_inv h hy1
  exact Exists.intro (has_27) (And.intro h (arr [] [1, 7, 9] [5] [0, 1, 2, 10] (by kernel_rfl)))
  rcases Bool.eq_false_or_eq_true (r_17.2 != 0) with b50 | b50
  replace h := ite_t b50 h
  exact T_regJ [zn, zn, zn, zg, zg, zg, zg, zg, zg, zg, (zd (B true))] [] [1, 2, 7, 54] [] [0, 1, 2, 5, 10] _ _ (by kernel_rfl) (z6 (zc (gd_tf b50) (zc (gd_tf b50) (zc (gd_tf b50) (zc (gd_tf b50) (zc (gd_tf b50) (zc (gd_tf b50) (zc (gd_tf b50) (z1 (zc b50 zt)))))))))) (fun s hs => Exists.intro true (And.intro h hs))
  replace h := ite_f b50 h
  exact T_regJ (hl 11 [(5, (zd (I ((v_1.ks.length : Nat) : Int)))), (8, (zd (I ((v_1.l.length : Nat) : Int)))), (10, (zd (B false)))]) [] [1, 2, 7, 54] [] [0, 1, 2, 5, 10] _ _ (by kernel_rfl) (z6 (zc (gd_ff b50) (z1 (zc (gd_ff b50) (z1 (zc (gd_ff b50) (zc (len_s elStr v_1.ks) (zc (gd_ff b50) (z1 (zc (gd_ff b50) (z1 (zc (gd_ff b50) (zc (len_s encVal v_1.l) (zc (gd_ff b50) (z2 (zc b50 zt)))))))))))))))) (fun s hs => Exists.intro (((v_1.ks.length : Nat) : Int) != ((v_1.l.length : Nat) : Int)) (And.intro h hs))
  obtain ⟨rfl, rfl, hlk⟩ := CoR_pan hR
  replace h := hz21 rfl
  obtain rfl := some_inv h
  exact (show _ ∧ _ from ⟨rfl, ⟨_, rfl, lk3 ((after_lk (by kernel_rfl) rfl).trans (by rw [hlk 0 (by decide)]; kernel_rfl)) ((after_lk (by kernel_rfl) rfl).trans (by rw [hlk 1 (by decide)]; kernel_rfl)) ((after_lk (by kernel_rfl) rfl).trans (by rw [hlk 2 (by decide)]; kernel_rfl))⟩⟩)
  obtain ⟨rfl, rfl, hlk⟩ := CoR_pan hR
  replace h := hz15 rfl
  obtain rfl := some_inv h
  exact (show _ ∧ _ from ⟨rfl, ⟨_, rfl, lk3 ((after_lk (by kernel_rfl) rfl).trans (by rw [hlk 0 (by decide)]; kernel_rfl)) ((after_lk (by kernel_rfl) rfl).trans (by rw [hlk 1 (by decide)]; kernel_rfl)) ((after_lk (by kernel_rfl) rfl).trans (by rw [hlk 2 (by decide)]; kernel_rfl))⟩⟩)
  refine T_parts ?_
  refine TL_part 1 [] (mk 97 [(1, (dt (.str other_2))), (2, (rf 5 0)), (17, (db (!(r_3)))), (18, (.agg (qVal v_1)))] [(5, (.var (qVal v_1))), (0, (.obj (tabP Tryd.prog))), (1, (.obj (errP 1))), (2, (.obj (errP 2)))]) _ (by kernel_rfl) (z2 zt) rfl ?_
  refine TL_part 1 [] (mk 97 [(1, (dt (.str other_2))), (2, (rf 5 0)), (17, (db (!(r_3)))), (18, (.agg (qVal v_1))), (19, (ow 22))] [(22, (.row 25 5 [ndcVal v_1])), (5, (.var (qVal v_1))), (0, (.obj (tabP Tryd.prog))), (1, (.obj (errP 1))), (2, (.obj (errP 2)))]) _ (by kernel_rfl) (z1 (zc (show dfill (fun i => some (i * 5, 5)) (List.replicate (1 * 5) .junk) [(0, [(.dat (I v_1.k)), (.dat (I v_1.n)), (.dat (.str v_1.s)), (.dat (.sl 5 (v_1.l.map encVal))), (.dat (.sl 1 (v_1.ks.map elStr)))])] = some ((flat [ndcVal v_1]).map .dat) from rfl) zt)) rfl ?_
  refine TL_turn [] [1, 2, 17, 18, 19] [] (mk 97 [(1, (dt (.str other_2))), (2, (rf 5 0)), (17, (db (!(r_3)))), (18, (.agg (qVal v_1))), (19, (ow 22))] [(22, (.row 25 5 ([v_1].map encVal))), (5, (.var (qVal v_1))), (0, (.obj (tabP Tryd.prog))), (1, (.obj (errP 1))), (2, (.obj (errP 2)))]) (by rw [show [v_1].map encVal = [ndcVal v_1] from by simp only [List.map_cons, List.map_nil, encVal_nd]]; kernel_rfl) ?_
  obtain ⟨r_51, e52, h⟩ := bd_inv h
  rcases Bool.eq_false_or_eq_true (!(r_51)) with b53 | b53
  replace h := ite_t b53 h
  refine TL_part 12 [(zd (B (r_51))), zn, zn, zg, zg, zg, (zd (B true)), zn, zg, zg, zg, (zd (B true))] (mk 97 [(1, (dt (.str other_2))), (2, (rf 5 0)), (17, (db (!(r_3)))), (18, (.agg (qVal v_1))), (19, (ow 22)), (20, (db (r_51))), (21, (db (!(r_51)))), (22, (db (!(r_51)))), (23, (dt (.tup []))), (24, (dt (.tup []))), (25, (dt (.tup []))), (26, (db true)), (27, (db true)), (28, (dt (.tup []))), (29, (dt (.tup []))), (30, (dt (.tup []))), (31, (db true))] [(22, (.row 25 5 ([v_1].map encVal))), (5, (.var (qVal v_1))), (0, (.obj (tabP Tryd.prog))), (1, (.obj (errP 1))), (2, (.obj (errP 2)))]) _ (by kernel_rfl) (z1 (zc (g_law02_few_ret e52) (z4 (zc (gd_tf b53) (zc (gd_tf b53) (zc (gd_tf b53) (z1 (zc b53 (z2 (zc (gd_tf (rfl : true = true)) (zc (gd_tf (rfl : true = true)) (zc (gd_tf (rfl : true = true)) (z1 (zc (rfl : true = true) zt)))))))))))))) rfl ?_
  refine TL_nilQ ?_
  exact Exists.intro true (And.intro h (arr [] [1, 2, 31] [22] [0, 1, 2, 5] (by kernel_rfl)))
  replace h := ite_f b53 h
  rcases Bool.eq_false_or_eq_true (decide (((other_2.length : Nat) : Int) > 200)) with b54 | b54
  replace h := ite_t b54 h
  refine TL_part 12 [(zd (B (r_51))), zn, zn, zn, zn, zn, (zd (B false)), zn, zg, zg, zg, (zd (B true))] (mk 97 [(1, (dt (.str other_2))), (2, (rf 5 0)), (17, (db (!(r_3)))), (18, (.agg (qVal v_1))), (19, (ow 22)), (20, (db (r_51))), (21, (db (!(r_51)))), (22, (db (!(r_51)))), (23, (dt (.str other_2))), (24, (di ((other_2.length : Nat) : Int))), (25, (db (decide (((other_2.length : Nat) : Int) > 200)))), (26, (db (decide (((other_2.length : Nat) : Int) > 200)))), (27, (db (decide (((other_2.length : Nat) : Int) > 200)))), (28, (dt (.tup []))), (29, (dt (.tup []))), (30, (dt (.tup []))), (31, (db true))] [(22, (.row 25 5 ([v_1].map encVal))), (5, (.var (qVal v_1))), (0, (.obj (tabP Tryd.prog))), (1, (.obj (errP 1))), (2, (.obj (errP 2)))]) _ (by kernel_rfl) (z1 (zc (g_law02_few_ret e52) (z4 (zc (gd_ff b53) (z1 (zc (gd_ff b53) (z1 (zc (gd_ff b53) (z2 (zc b53 (z2 (zc (gd_tf b54) (zc (gd_tf b54) (zc (gd_tf b54) (z1 (zc b54 zt)))))))))))))))) rfl ?_
  refine TL_nilQ ?_
  exact Exists.intro true (And.intro h (arr [] [1, 2, 31] [22] [0, 1, 2, 5] (by kernel_rfl)))
  replace h := ite_f b54 h
  refine TL_part 12 (hl 12 [(0, (zd (B (r_51)))), (6, (zd (B false))), (11, (zd (B false)))]) (mk 97 [(1, (dt (.str other_2))), (2, (rf 5 0)), (17, (db (!(r_3)))), (18, (.agg (qVal v_1))), (19, (ow 22)), (20, (db (r_51))), (21, (db (!(r_51)))), (22, (db (!(r_51)))), (23, (dt (.str other_2))), (24, (di ((other_2.length : Nat) : Int))), (25, (db (decide (((other_2.length : Nat) : Int) > 200)))), (26, (db (decide (((other_2.length : Nat) : Int) > 200)))), (27, (db (decide (((other_2.length : Nat) : Int) > 200)))), (28, (rf 5 0)), (29, (di v_1.k)), (30, (db (v_1.k != 4))), (31, (db (v_1.k != 4)))] [(22, (.row 25 5 ([v_1].map encVal))), (5, (.var (qVal v_1))), (0, (.obj (tabP Tryd.prog))), (1, (.obj (errP 1))), (2, (.obj (errP 2)))]) _ (by kernel_rfl) (z1 (zc (g_law02_few_ret e52) (z4 (zc (gd_ff b53) (z1 (zc (gd_ff b53) (z1 (zc (gd_ff b53) (z2 (zc b53 (z2 (zc (gd_ff b54) (z1 (zc (gd_ff b54) (z1 (zc (gd_ff b54) (z2 (zc b54 zt)))))))))))))))))) rfl ?_
  refine TL_nilQ ?_
  exact Exists.intro (v_1.k != 4) (And.intro h (arr [] [1, 2, 31] [22] [0, 1, 2, 5] (by kernel_rfl)))
  obtain ⟨rfl, rfl, hlk⟩ := CoR_pan hR
  replace h := hz7 rfl
  obtain rfl := some_inv h
  exact (show _ ∧ _ from ⟨rfl, ⟨_, rfl, lk3 ((after_lk (by kernel_rfl) rfl).trans (by rw [hlk 0 (by decide)]; kernel_rfl)) ((after_lk (by kernel_rfl) rfl).trans (by rw [hlk 1 (by decide)]; kernel_rfl)) ((after_lk (by kernel_rfl) rfl).trans (by rw [hlk 2 (by decide)]; kernel_rfl))⟩⟩)

end Go.Proofs.YtimalbkjflfdoaaDoor

/-
  The data-level framework, third series, part c: the sorted keys of a set of the call's own. Generic in the program; no condition.
-/
set_option linter.unusedVariables false
set_option linter.unusedSimpArgs false
namespace Go.DL
open Go.RowKit Go.Maps
section
variable {P : Program} {w : World} {A : Nat → Prop} {M : BMap} {base : Nat} {Q : DX → DS → Prop} {s : DS}
end
end Go.DL

/-
  The data-level framework, third series, part d: rows of rows: a row of the call's own whose last element is a row of the call's own. Generic in the program; no condition.
-/
set_option linter.unusedVariables false
set_option linter.unusedSimpArgs false
namespace Go.DL
open Go.RowKit
section
variable {P : Program} {w : World} {A : Nat → Prop} {M : BMap} {base : Nat} {Q : DX → DS → Prop} {s : DS}

end
end Go.DL

/-
  The data-level framework, third series, part e: partial functions have values with a property: one rule for each shape of step, and a tactic that applies them. Generic; no condition.
-/
set_option linter.unusedVariables false
set_option linter.unusedSimpArgs false
namespace Go.DL
def WP {α : Type} (o : Option α) (Q : α → Prop) : Prop := ∃ x, o = some x ∧ Q x
section
variable {α β ρ σ : Type} {Q : ρ → Prop}
theorem WP.eq {o : Option ρ} {r : ρ} (h : WP o fun x => x = r) : o = some r := by obtain ⟨x, h1, rfl⟩ := h; exact h1
theorem WP.of {o : Option ρ} {r : ρ} (h : o = some r) (hq : Q r) : WP o Q := ⟨r, h, hq⟩
theorem WP.mono {o : Option ρ} {Q' : ρ → Prop} (h : WP o Q') (hq : ∀ x, Q' x → Q x) : WP o Q := by obtain ⟨x, h1, h2⟩ := h; exact ⟨x, h1, hq x h2⟩
theorem WP.ret {x : ρ} (h : Q x) : WP (some x) Q := ⟨x, rfl, h⟩
theorem WP.iteD {p : Prop} [d : Decidable p] [i : Decidable (decide p = true)] {a b : Option ρ} (h1 : p → WP a Q) (h2 : ¬ p → WP b Q) : WP (@ite _ (decide p = true) i a b) Q := by
  by_cases h : p
  · rw [if_pos (decide_eq_true h)]; exact h1 h
  · rw [if_neg (by simp [h])]; exact h2 h
theorem WP.iteE [DecidableEq α] {x y : α} [i : Decidable ((x == y) = true)] {a b : Option ρ} (h1 : x = y → WP a Q) (h2 : ¬ x = y → WP b Q) : WP (@ite _ ((x == y) = true) i a b) Q := by
  by_cases h : x = y
  · rw [if_pos (beq_iff_eq.2 h)]; exact h1 h
  · rw [if_neg (by simp [h])]; exact h2 h
theorem WP.iteN [DecidableEq α] {x y : α} [i : Decidable ((x != y) = true)] {a b : Option ρ} (h1 : ¬ x = y → WP a Q) (h2 : x = y → WP b Q) : WP (@ite _ ((x != y) = true) i a b) Q := by
  by_cases h : x = y
  · rw [if_neg (by simp [h])]; exact h2 h
  · rw [if_pos (bne_iff_ne.2 h)]; exact h1 h
theorem WP.iteT [i : Decidable (true = true)] {a b : Option ρ} (h : WP a Q) : WP (@ite _ (true = true) i a b) Q := by rw [if_pos rfl]; exact h
theorem WP.iteF [i : Decidable (false = true)] {a b : Option ρ} (h : WP b Q) : WP (@ite _ (false = true) i a b) Q := by rw [if_neg (by simp)]; exact h
theorem WP.iteNb {c : Bool} [i : Decidable ((!c) = true)] {a b : Option ρ} (h : WP (if c = true then b else a) Q) : WP (@ite _ ((!c) = true) i a b) Q := by
  cases c
  · rw [if_pos (show (!false) = true from rfl)]; rwa [if_neg (by simp)] at h
  · rw [if_neg (show ¬ (!true) = true by simp)]; rwa [if_pos rfl] at h
theorem WP.iteB {c : Bool} [i : Decidable (c = true)] {a b : Option ρ} (h1 : c = true → WP a Q) (h2 : c = false → WP b Q) : WP (@ite _ (c = true) i a b) Q := by
  cases c
  · rw [if_neg (by simp)]; exact h2 rfl
  · rw [if_pos rfl]; exact h1 rfl
theorem WP.ckI {n : Int} {o : Option ρ} (hn : -9223372036854775808 ≤ n ∧ n ≤ 9223372036854775807) (h : WP o Q) : WP (Go.DL.ckI n o) Q := by rw [ckI_pos hn.1 hn.2]; exact h
theorem WP.ck {p : Prop} [Decidable p] {o : Option ρ} (hp : p) (h : WP o Q) : WP (Go.DL.ck p o) Q := by rw [ck_pos hp]; exact h
theorem WP.gn {l : List α} {n : Nat} {k : α → Option ρ} (hn : n < l.length) (h : ∀ x, l[n]? = some x → WP (k x) Q) : WP (Go.DL.gn l n k) Q := by
  have hx : l[n]? = some l[n] := List.getElem?_eq_getElem hn
  rw [gn_some hx]; exact h _ hx
theorem WP.gt {l : List α} {i : Int} {k : α → Option ρ} (hn : 0 ≤ i ∧ i < (l.length : Int)) (h : ∀ x, l[i.toNat]? = some x → WP (k x) Q) : WP (Go.DL.gt l i k) Q := by
  have hx : l[i.toNat]? = some (l[i.toNat]'(by omega)) := List.getElem?_eq_getElem (by omega)
  rw [gt_some hx hn.1]; exact h _ hx
theorem WP.bd {o : Option α} {k : α → Option ρ} {r : α} (ho : o = some r) (h : WP (k r) Q) : WP (Go.DL.bd o k) Q := by rw [ho]; exact h
theorem WP.bdW {o : Option α} {k : α → Option ρ} (h : WP o fun x => WP (k x) Q) : WP (Go.DL.bd o k) Q := by obtain ⟨x, h1, h2⟩ := h; rw [h1]; exact h2
theorem WP.up {o : Option ρ} {Q : σ ⊕ ρ → Prop} (h : WP o fun r => Q (.inr r)) : WP (Go.DL.up o) Q := by obtain ⟨x, h1, h2⟩ := h; exact ⟨.inr x, by rw [h1]; rfl, h2⟩
theorem WP.sb {l : List α} {lo hi : Option Int} {k : List α → Option ρ} (h0 : 0 ≤ lo.getD 0 ∧ lo.getD 0 ≤ hi.getD l.length ∧ hi.getD l.length ≤ (l.length : Int)) (h : WP (k (subList l lo hi)) Q) : WP (Go.DL.sb l lo hi k) Q := by
  unfold Go.DL.sb; rw [if_pos h0]; exact h
/-- What one round of a loop leaves: another round's state, which is nearer the end, or the result. -/
def Rnd (I : σ → Prop) (μ : σ → Nat) (n : Nat) (Q : ρ → Prop) : σ ⊕ ρ → Prop
  | .inl y => I y ∧ μ y < n
  | .inr r => Q r
theorem WP.loop {step : σ → Option (σ ⊕ ρ)} {x : σ} (I : σ → Prop) (μ : σ → Nat) (h : ∀ x, I x → WP (step x) (Rnd I μ (μ x) Q)) (h0 : I x) : WP (loopO step x) Q := by
  have key : ∀ n x, μ x = n → I x → WP (loopO step x) Q := by
    intro n
    induction n using Nat.strongRecOn with
    | _ n ih =>
      intro x hn hx
      obtain ⟨z, h1, h2⟩ := h x hx
      match z, h1, h2 with
      | .inr r, h1, h2 => exact ⟨r, loopO_inr h1, h2⟩
      | .inl y, h1, h2 => rw [loopO_inl h1]; have := h2.2; exact ih (μ y) (by omega) y rfl h2.1
  exact key _ x rfl h0
end
end Go.DL

/-
  The pure functions of chapter 2 in plain Lean: formed, Check, Depth and their references. Conditions: those of each theorem.
-/
set_option linter.unusedVariables false
set_option linter.unusedSimpArgs false
namespace Go.Proofs.YtimalbkjflfdoaaDoor
open Go.DL
theorem incr_iff : ∀ (l : List (List UInt8)), incr l = true ↔ ∀ (i : Nat) (x y : List UInt8), l[i]? = some x → l[i + 1]? = some y → Op.bytesLess x y = true
  | [] => by simp [incr]
  | [a] => by
    simp only [incr, true_iff]
    intro i x y h1 h2
    simp at h2
  | a :: b :: r => by
    simp only [incr, Bool.and_eq_true, incr_iff (b :: r)]
    constructor
    · rintro ⟨h1, h2⟩ i x y hx hy
      cases i with
      | zero => simp at hx hy; subst hx; subst hy; exact h1
      | succ i => exact h2 i x y (by simpa using hx) (by simpa using hy)
    · intro h
      exact ⟨h 0 a b rfl rfl, fun i x y hx hy => h (i + 1) x y (by simpa using hx) (by simpa using hy)⟩
def emptyB (v : Val) : Bool := if v.k = 1 then v.s.isEmpty && v.l.isEmpty && v.ks.isEmpty else if v.k = 2 then v.n == 0 && v.l.isEmpty && v.ks.isEmpty else if v.k = 3 then v.n == 0 && v.s.isEmpty && v.ks.isEmpty else v.n == 0 && v.s.isEmpty && v.ks.length == v.l.length
theorem len0 {α : Type} (l : List α) : ((((l.length : Nat) : Int) == 0) = l.isEmpty) := by cases l <;> simp; omega
theorem empty_eq {v : Val} (h1 : 1 ≤ v.k) (h2 : v.k ≤ 4) : g_codec_empty v = some (emptyB v) := by
  unfold g_codec_empty emptyB
  have hl : (((v.ks.length : Nat) : Int) == ((v.l.length : Nat) : Int)) = (v.ks.length == v.l.length) := by
    rw [Bool.eq_iff_iff, beq_iff_eq, beq_iff_eq]; omega
  simp only [len0, hl, List.isEmpty_iff, beq_iff_eq]
  have hk : v.k = 1 ∨ v.k = 2 ∨ v.k = 3 ∨ v.k = 4 := by omega
  have e1 : ∀ (l : List UInt8), (l == ([] : List UInt8)) = l.isEmpty := fun l => by cases l <;> rfl
  rcases hk with hk | hk | hk | hk <;> simp only [hk] <;> simp (config := { decide := true }) only [if_true, if_false, ck_pos] <;>
    by_cases a1 : v.s = [] <;> by_cases a2 : v.l = [] <;> by_cases a3 : v.n = 0 <;> simp [a1, a2, a3, ck]
def fmd (v : Val) : Int × Bool := if wf v = true then (((dep v : Nat) : Int), true) else (0, false)
theorem fmd_t {v : Val} (h : wf v = true) : fmd v = (((dep v : Nat) : Int), true) := if_pos h
theorem fmd_f {v : Val} (h : ¬ wf v = true) : fmd v = (0, false) := if_neg h
theorem wf_out {v : Val} (h : v.k < 1 ∨ 4 < v.k) : wf v = false := by
  cases v with
  | mk k n s l ks =>
    simp only [Val.k] at h
    have h1 : ¬ k = 1 := by omega
    have h2 : ¬ k = 2 := by omega
    have h3 : ¬ k = 3 := by omega
    have h4 : ¬ k = 4 := by omega
    simp [wf, h1, h2, h3, h4]
theorem wf_in {v : Val} (h1 : 1 ≤ v.k) (h2 : v.k ≤ 4) : wf v = (emptyB v && (if v.k = 4 then incr v.ks else true) && (if v.k < 3 then true else wfL v.l)) := by
  cases v with
  | mk k n s l ks =>
    simp only [Val.k] at h1 h2 ⊢
    have hk : k = 1 ∨ k = 2 ∨ k = 3 ∨ k = 4 := by omega
    rcases hk with rfl | rfl | rfl | rfl <;> simp (config := { decide := true }) [wf, emptyB, Val.k, Val.n, Val.s, Val.l, Val.ks, Bool.and_assoc]
theorem wf_ks {v : Val} (h1 : 1 ≤ v.k) (h2 : v.k < 4) (he : emptyB v = true) : v.ks = [] := by
  cases v with
  | mk k n s l ks =>
    simp only [Val.k] at h1 h2
    have hk : k = 1 ∨ k = 2 ∨ k = 3 := by omega
    rcases hk with rfl | rfl | rfl <;> simp_all [emptyB, Val.k, Val.n, Val.s, Val.l, Val.ks]
theorem dep_list {v : Val} (h : 3 ≤ v.k) : dep v = depL v.l + 1 := by
  cases v with
  | mk k n s l ks =>
    simp only [Val.k] at h
    simp only [dep, Val.l]
    rw [if_neg (by omega)]
theorem dep_flat {v : Val} (h1 : 1 ≤ v.k) (h : v.k < 3) : dep v = 0 := by
  cases v with
  | mk k n s l ks =>
    simp only [Val.k] at h h1
    simp only [dep]
    rw [if_pos (by omega)]
theorem depL_take_succ {l : List Val} {i : Nat} {x : Val} (hx : l[i]? = some x) : depL (l.take (i + 1)) = max (depL (l.take i)) (dep x) := by
  rw [List.take_add_one, hx, depL_append]
  simp [depL]
theorem dep_hgt (v : Val) : dep v ≤ hgt v := by
  induction v using Val.ind with
  | h k n s l ks ih =>
    have : depL l ≤ hgtL l := depL_le.2 fun x hx => Nat.le_trans (ih x hx) (hgtL_le.1 (Nat.le_refl _) x hx)
    simp only [dep, hgt]
    split <;> omega
theorem formed_s {rc : Val → Option (Int × Bool)} {v : Val} (hrc : ∀ x ∈ v.l, rc x = some (fmd x)) (hd : ∀ x ∈ v.l, dep x ≤ 1000) (hl1 : v.l.length ≤ 140737488355328) (hl2 : v.ks.length ≤ 140737488355328) : WP (g_codec_formed_s rc v) fun r => r = fmd v := by
  unfold g_codec_formed_s
  by_cases h1 : v.k < 1
  · rw [if_pos (decide_eq_true h1)]
    exact WP.iteT (WP.ret (fmd_f (by rw [wf_out (.inl h1)]; simp)).symm)
  rw [if_neg (by simpa using h1)]
  by_cases h2 : v.k > 4
  · rw [if_pos (decide_eq_true h2)]
    exact WP.iteT (WP.ret (fmd_f (by rw [wf_out (.inr h2)]; simp)).symm)
  rw [if_neg (by simpa using h2)]
  have w0 := wf_in (v := v) (by omega) (by omega)
  refine WP.bd (empty_eq (by omega) (by omega)) ?_
  unfold g_codec_formed_s_j1
  refine WP.iteNb ?_
  refine WP.iteB (fun he => ?_) (fun he => WP.ret (fmd_f (by rw [w0, he]; simp)).symm)
  refine WP.loop (fun i => 1 ≤ i ∧ ∀ j x y, j + 1 < i → v.ks[j]? = some x → v.ks[j + 1]? = some y → Op.bytesLess x y = true) (fun i => v.ks.length - i) ?_ ⟨Nat.le_refl _, fun j x y h => by omega⟩
  intro i ⟨hi1, hi2⟩
  simp only [g_codec_formed_s_l5]
  refine WP.iteD (fun hi => ?_) (fun hi => ?_)
  · have hi' : i < v.ks.length := by omega
    refine WP.ckI (by omega) (WP.gt (by omega) fun x hx => WP.gn hi' fun y hy => ?_)
    have hx' : v.ks[i - 1]? = some x := by rw [← hx]; congr 1; omega
    have hy' : v.ks[i - 1 + 1]? = some y := by rw [← hy]; congr 1; omega
    refine WP.iteNb (WP.iteB (fun hl => WP.ckI (by omega) (WP.ret ⟨⟨by omega, fun j a b hj ha hb => ?_⟩, by show v.ks.length - (i + 1) < v.ks.length - i; omega⟩)) (fun hl => WP.up (WP.ret ?_)))
    · by_cases hji : j = i - 1
      · subst hji; rw [hx'] at ha; rw [hy'] at hb; cases ha; cases hb; exact hl
      · exact hi2 j a b (by omega) ha hb
    · refine (fmd_f ?_).symm
      have hk4 : v.k = 4 := by
        rcases Int.lt_or_le v.k 4 with h | h
        · rw [wf_ks (by omega) h he] at hi'; simp at hi'
        · omega
      rw [w0, hk4]
      have : ¬ incr v.ks = true := fun hn => by rw [(incr_iff _).1 hn _ x y hx' hy'] at hl; cases hl
      simp [this]
  · have hinc : incr v.ks = true := (incr_iff _).2 fun j x y hx hy => by
      have := (List.getElem?_eq_some_iff.1 hy).1
      exact hi2 j x y (by omega) hx hy
    refine WP.up ?_
    show WP (g_codec_formed_s_j2 v rc) fun r => r = fmd v
    unfold g_codec_formed_s_j2
    refine WP.iteD (fun h3 => WP.ret ?_) (fun h3 => ?_)
    · have : wf v = true := by rw [w0, he, hinc]; simp [h3]
      rw [fmd_t this, dep_flat (by omega) h3]; rfl
    · refine WP.loop (fun (p : Int × Nat) => p.2 ≤ v.l.length ∧ p.1 = ((depL (v.l.take p.2) : Nat) : Int) ∧ (∀ x ∈ v.l.take p.2, wf x = true)) (fun p => v.l.length - p.2) ?_ ⟨by simp, by simp [depL], by simp⟩
      rintro ⟨d, i⟩ ⟨g1, g2, g3⟩
      simp only at g1 g2 g3
      simp only [g_codec_formed_s_l4]
      refine WP.iteD (fun hi => ?_) (fun hi => ?_)
      · have hi' : i < v.l.length := by omega
        refine WP.gn hi' fun x hx => WP.bd (hrc x (List.mem_of_getElem? hx)) ?_
        refine WP.iteNb ?_
        by_cases hw : wf x = true
        · rw [fmd_t hw]
          refine WP.iteT (WP.ckI (by omega) (WP.ret ⟨⟨by simp only; omega, ?_, ?_⟩, by simp only; omega⟩))
          · simp only
            rw [depL_take_succ hx, g2]
            split <;> omega
          · simp only
            intro y hy
            rw [List.take_add_one, hx] at hy
            rcases List.mem_append.1 hy with hy | hy
            · exact g3 y hy
            · simp at hy; subst hy; exact hw
        · rw [fmd_f hw]
          refine WP.iteF (WP.up (WP.ret (fmd_f ?_).symm))
          rw [w0]
          have : ¬ wfL v.l = true := fun h => hw (wfL_iff.1 h x (List.mem_of_getElem? hx))
          simp [h3, this]
      · have e : i = v.l.length := by omega
        rw [e, List.take_length] at g2 g3
        refine WP.up ?_
        show WP (g_codec_formed_s_j3 d) fun r => r = fmd v
        have hdd : depL v.l ≤ 1000 := depL_le.2 hd
        refine WP.ckI (by omega) (WP.ret ?_)
        have hwl : wfL v.l = true := wfL_iff.2 g3
        have : wf v = true := by
          rw [w0, he, hinc, hwl]; simp
        rw [fmd_t this, dep_list (by omega), g2]
        simp
theorem formed_eq : ∀ (fu : Nat) (v : Val), hgt v ≤ fu → fu ≤ 1000 → rng v → g_codec_formed fu v = some (fmd v)
  | 0, .mk k n s l ks, h, _, _ => by simp [hgt] at h
  | fu + 1, .mk k n s l ks, h, hf, hr => by
    simp only [hgt, Nat.add_le_add_iff_right, hgtL_le] at h
    simp only [rng, rngL_iff] at hr
    exact WP.eq (formed_s (v := .mk k n s l ks) (fun x hx => formed_eq fu x (h x hx) (by omega) (hr.2.2.2.2.2.2 x hx)) (fun x hx => Nat.le_trans (dep_hgt x) (by have := h x hx; omega)) hr.2.2.2.1 hr.2.2.2.2.1)
/-- What Check says. -/
def chk (v : Val) : Int := if wf v = true then (if 16 < dep v then 2 else 0) else 1
theorem check_eq {v : Val} (h : hgt v ≤ 60) (hr : rng v) : g_codec_Check v = some (chk v) := by
  refine WP.eq ?_
  unfold g_codec_Check
  refine WP.bd (formed_eq 60 v h (by omega) hr) ?_
  unfold chk fmd
  by_cases hw : wf v = true
  · rw [if_pos hw, if_pos hw]
    refine WP.iteNb (WP.iteT ?_)
    refine WP.iteD (fun h => WP.ret ?_) (fun h => WP.ret ?_)
    · simp only at h; rw [if_pos (by omega)]
    · simp only at h; rw [if_neg (by omega)]
  · rw [if_neg hw, if_neg hw]
    exact WP.iteNb (WP.iteF (WP.ret rfl))
end Go.Proofs.YtimalbkjflfdoaaDoor

/-
  The reference's pure functions of chapter 2 in plain Lean: Formed, Depth, Check, count, few. Conditions: those of each theorem.
-/
set_option linter.unusedVariables false
set_option linter.unusedSimpArgs false
set_option maxRecDepth 100000
namespace Go.Proofs.YtimalbkjflfdoaaDoor
open Go.DL
/-! ### few -/
/-- What a small value is. -/
def Sm (v : Val) : Prop := cnt v ≤ 200 ∧ hgt v ≤ 22 ∧ rng v
theorem tdiv_nat (a b : Nat) : ((a : Nat) : Int).tdiv ((b : Nat) : Int) = ((a / b : Nat) : Int) := by
  rw [Int.tdiv_eq_ediv_of_nonneg (Int.natCast_nonneg a)]; rfl
def keyS (ks : List (List UInt8)) : Nat := (ks.map fun k => k.length / 50).sum
theorem keyS_take {ks : List (List UInt8)} {i : Nat} {x : List UInt8} (h : ks[i]? = some x) : keyS (ks.take (i + 1)) = keyS (ks.take i) + x.length / 50 := by
  simp [keyS, List.take_add_one, h]
theorem cntL_take {l : List Val} {i : Nat} {x : Val} (h : l[i]? = some x) : cntL (l.take (i + 1)) = cntL (l.take i) + cnt x := by
  rw [List.take_add_one, h, cntL_append]; simp [cntL]
theorem keyS_leB {ks : List (List UInt8)} {B : Nat} (h : ∀ k ∈ ks, k.length / 50 ≤ B) (i : Nat) : keyS (ks.take i) ≤ i * B := by
  induction i with
  | zero => simp [keyS]
  | succ i ih =>
    cases hx : ks[i]? with
    | none =>
      have : ks.take (i + 1) = ks.take i := by rw [List.take_add_one, hx]; simp
      rw [this, Nat.succ_mul]; omega
    | some x =>
      rw [keyS_take hx, Nat.succ_mul]
      have := h x (List.mem_of_getElem? hx)
      omega
theorem keyS_le {ks : List (List UInt8)} (h : ∀ k ∈ ks, k.length ≤ 140737488355328) (i : Nat) : keyS (ks.take i) ≤ i * 2814749767107 :=
  keyS_leB (fun k hk => by have := h k hk; omega) i
/-- What 'count' answers: the parts, where that is at most 1000 and nothing lies too deep. -/
def cntOk (d : Int) (fu : Nat) (v : Val) (r : Int) : Prop := 0 ≤ r ∧ r ≤ 562949953421312 + 1001 * fu ∧ (r ≤ 200 → (cnt v : Int) = r ∧ (hgt v : Int) ≤ d + 1)
theorem count_s {rc : Val → Int → Option Int} {fu : Nat} {v : Val} {d : Int} (hf : fu ≤ 100) (hd1 : -1 ≤ d) (hd2 : d ≤ 100) (hr : rng v) (hrc : 0 ≤ d → ∀ x ∈ v.l, WP (rc x (d - 1)) (cntOk (d - 1) fu x)) : WP (g_ref02_count_s rc v d) (cntOk d (fu + 1) v) := by
  cases v with
  | mk k n s l ks =>
    simp only [Val.l] at hrc
    simp only [rng, rngL_iff] at hr
    obtain ⟨r1, r2, r3, r4, r5, r6, r7⟩ := hr
    have t1 : ((s.length : Nat) : Int).tdiv 200 = ((s.length / 200 : Nat) : Int) := tdiv_nat s.length 200
    have t2 : ∀ x : List UInt8, ((x.length : Nat) : Int).tdiv 50 = ((x.length / 50 : Nat) : Int) := fun x => tdiv_nat x.length 50
    have big : cntOk d (fu + 1) (.mk k n s l ks) 1000 := ⟨by omega, by omega, fun h => by omega⟩
    unfold g_ref02_count_s
    simp only [Val.s, Val.l, Val.ks, t1]
    refine WP.ckI (by omega) (WP.ckI (by omega) (WP.ckI (by omega) ?_))
    unfold g_ref02_count_s_j1
    refine WP.iteD (fun _ => WP.iteT (WP.ret big)) (fun hd0 => WP.iteD (fun _ => WP.iteT (WP.ret big)) (fun hl60 => ?_))
    refine WP.iteB (fun _ => WP.ret big) (fun hk60 => ?_)
    have hk60' : ks.length ≤ 60 := by have := of_decide_eq_false hk60; omega
    refine WP.loop (fun (p : Int × Nat) => p.2 ≤ ks.length ∧ p.1 = ((1 + s.length / 200 + ks.length + keyS (ks.take p.2) : Nat) : Int)) (fun p => ks.length - p.2) ?_ ⟨by simp, by simp only [List.take_zero, keyS, List.map_nil, List.sum_nil, Val.s, Val.ks]; omega⟩
    rintro ⟨m, i⟩ ⟨g1, g2⟩
    simp only at g1 g2
    simp only [g_ref02_count_s_l6, Val.ks]
    refine WP.iteD (fun hi => ?_) (fun hi => ?_)
    · have hi' : i < ks.length := by omega
      have hks := keyS_le r6 i
      refine WP.gn hi' fun x hx => ?_
      have hx2 := r6 x (List.mem_of_getElem? hx)
      rw [t2 x]
      refine WP.ckI (by omega) (WP.ckI (by omega) (WP.ckI (by omega) (WP.ret ⟨⟨by simp only; omega, ?_⟩, by simp only; omega⟩)))
      simp only
      rw [keyS_take hx, g2]; omega
    · have e : i = ks.length := by omega
      have hks := keyS_le r6 i
      rw [e, List.take_length] at g2
      rw [e, List.take_length] at hks
      refine WP.up ?_
      show WP (g_ref02_count_s_j2 (.mk k n s l ks) d rc m) (cntOk d (fu + 1) (.mk k n s l ks))
      unfold g_ref02_count_s_j2
      refine WP.loop (fun (p : Int × Nat) => p.2 ≤ l.length ∧ 0 ≤ p.1 ∧ p.1 ≤ 562949953421312 + 1001 * (fu + 1) ∧ (p.1 ≤ 200 → p.1 = m + ((cntL (l.take p.2) : Nat) : Int) ∧ ∀ x ∈ l.take p.2, (hgt x : Int) ≤ d)) (fun p => l.length - p.2) ?_ ⟨by simp, by simp only; omega, by simp only; omega, fun _ => by simp [cntL]⟩
      rintro ⟨c, i⟩ ⟨q1, q2, q3, q4⟩
      simp only at q1 q2 q3 q4
      have hout : ¬ c ≤ 1000 ∨ i = l.length → cntOk d (fu + 1) (.mk k n s l ks) c := by
        intro ho
        refine ⟨q2, q3, fun h200 => ?_⟩
        obtain ⟨q5, q6⟩ := q4 h200
        have ei : i = l.length := by omega
        rw [ei, List.take_length] at q5 q6
        refine ⟨?_, ?_⟩
        · rw [q5, g2]; simp only [cnt, keyS]; omega
        · have : hgtL l ≤ d.toNat := hgtL_le.2 fun x hx => by have := q6 x hx; omega
          simp only [hgt]; omega
      simp only [g_ref02_count_s_l4, Val.l]
      unfold g_ref02_count_s_j5
      refine WP.iteD (fun hi => ?_) (fun hi => WP.iteF (WP.up (WP.ret (hout (.inr (by omega))))))
      have hi' : i < l.length := by omega
      refine WP.iteB (fun hc => ?_) (fun hc => WP.up (WP.ret (hout (.inl (of_decide_eq_false hc)))))
      have hc' := of_decide_eq_true hc
      refine WP.gn hi' fun x (hx : l[i]? = some x) => WP.ckI (by omega) (WP.bdW ((hrc (by omega) x (List.mem_of_getElem? hx)).mono fun y ⟨y1, y2, y3⟩ => ?_))
      refine WP.ckI (by omega) (WP.ckI (by omega) (WP.ret ⟨⟨by simp only; omega, by simp only; omega, by simp only; omega, fun h200 => ?_⟩, by simp only; omega⟩))
      simp only at h200 ⊢
      obtain ⟨q5, q6⟩ := q4 (by omega)
      obtain ⟨y4, y5⟩ := y3 (by omega)
      refine ⟨by rw [cntL_take hx, q5]; omega, fun z hz => ?_⟩
      rw [List.take_add_one, hx] at hz
      rcases List.mem_append.1 hz with hz | hz
      · exact q6 z hz
      · simp at hz; subst hz; omega
theorem count_eq : ∀ (fu : Nat) (v : Val) (d : Int), d + 1 < fu → fu ≤ 100 → -1 ≤ d → rng v → WP (g_ref02_count fu v d) (cntOk d fu v)
  | 0, v, d, h, _, hd, _ => by omega
  | fu + 1, v, d, h, hf, hd, hr => by
    show WP (g_ref02_count_s (g_ref02_count fu) v d) _
    refine count_s (by omega) hd (by omega) hr fun hd0 x hx => count_eq fu x (d - 1) (by omega) (by omega) (by omega) ?_
    cases v with
    | mk k n s l ks =>
      simp only [rng, rngL_iff] at hr
      exact hr.2.2.2.2.2.2 x hx
theorem few_eq {l : List Val} (hr : ∀ x ∈ l, rng x) (hl : l.length ≤ 140737488355328) : WP (g_law02_few l) fun b => b = true → ∀ x ∈ l, Sm x := by
  unfold g_law02_few
  refine WP.loop (fun i => i ≤ l.length ∧ ∀ x ∈ l.take i, Sm x) (fun i => l.length - i) ?_ ⟨by omega, by simp⟩
  rintro i ⟨g1, g2⟩
  simp only [g_law02_few_l2]
  refine WP.iteD (fun hi => ?_) (fun hi => WP.up (WP.ret fun _ => ?_))
  · have hi' : i < l.length := by omega
    refine WP.gn hi' fun x hx => ?_
    have hx' := List.mem_of_getElem? hx
    unfold g_ref02_Few
    refine WP.bdW (WP.bdW ((count_eq 60 x 20 (by omega) (by omega) (by omega) (hr x hx')).mono fun c ⟨c1, c2, c3⟩ => WP.ret ?_))
    refine WP.iteNb (WP.iteD (fun h => WP.ckI (by omega) (WP.ret ⟨⟨by omega, ?_⟩, by show l.length - (i + 1) < l.length - i; omega⟩)) (fun h => WP.up (WP.ret fun h => by cases h)))
    intro z hz
    rw [List.take_add_one, hx] at hz
    rcases List.mem_append.1 hz with hz | hz
    · exact g2 z hz
    · simp at hz; subst hz
      obtain ⟨c4, c5⟩ := c3 h
      exact ⟨by omega, by omega, hr z hx'⟩
  · have e : i = l.length := by omega
    rw [e, List.take_length] at g2
    exact g2
end Go.Proofs.YtimalbkjflfdoaaDoor

/-
  Same and Get of chapter 2 (program and reference) in plain Lean. Conditions: those of each theorem.
-/
set_option linter.unusedVariables false
set_option linter.unusedSimpArgs false
set_option maxRecDepth 100000
namespace Go.Proofs.YtimalbkjflfdoaaDoor
open Go.DL
theorem list_ext_of {α : Type} {a b : List α} (hl : a.length = b.length) (h : ∀ (i : Nat) (x y : α), a[i]? = some x → b[i]? = some y → x = y) : a = b := by
  apply List.ext_getElem hl
  intro i h1 h2
  exact h i _ _ (List.getElem?_eq_getElem h1) (List.getElem?_eq_getElem h2)
theorem WP.iteL {α ρ : Type} {Q : ρ → Prop} [BEq α] [LawfulBEq α] {x y : α} [i : Decidable ((x == y) = true)] {a b : Option ρ} (h1 : x = y → WP a Q) (h2 : ¬ x = y → WP b Q) : WP (@ite _ ((x == y) = true) i a b) Q := by
  by_cases h : x = y
  · rw [if_pos (beq_iff_eq.2 h)]; exact h1 h
  · rw [if_neg (by simpa using h)]; exact h2 h
/-- Two lists, element by element. -/
def upto {α : Type} (a b : List α) (i : Nat) : Prop := ∀ (j : Nat) (x y : α), j < i → a[j]? = some x → b[j]? = some y → x = y
theorem upto_succ {α : Type} {a b : List α} {i : Nat} {x y : α} (h : upto a b i) (hx : a[i]? = some x) (hy : b[i]? = some y) (e : x = y) : upto a b (i + 1) := by
  intro j p q hj hp hq
  by_cases hji : j = i
  · subst hji; rw [hx] at hp; rw [hy] at hq; cases hp; cases hq; exact e
  · exact h j p q (by omega) hp hq
theorem upto_end {α : Type} {a b : List α} (hl : a.length = b.length) (h : upto a b a.length) : a = b :=
  list_ext_of hl fun i x y hx hy => h i x y (List.getElem?_eq_some_iff.1 hx).1 hx hy
theorem upto_ne {α : Type} {a b : List α} {i : Nat} {x y : α} (hx : a[i]? = some x) (hy : b[i]? = some y) (e : x ≠ y) : a ≠ b := fun h => by subst h; rw [hx] at hy; exact e (Option.some.inj hy)
theorem equalS_eq {a b : List (List UInt8)} (ha : a.length ≤ 140737488355328) : WP (g_slices_Equal_Lstring_string a b) fun r => r = true ↔ a = b := by
  unfold g_slices_Equal_Lstring_string
  refine WP.iteN (fun h => WP.ret ?_) (fun h => ?_)
  · have : a ≠ b := fun e => h (by rw [e])
    simp [this]
  · have hl : a.length = b.length := by omega
    refine WP.loop (fun i => i ≤ a.length ∧ upto a b i) (fun i => a.length - i) ?_ ⟨by omega, fun j x y h => by omega⟩
    rintro i ⟨g1, g2⟩
    simp only [g_slices_Equal_Lstring_string_l2]
    refine WP.iteD (fun hi => ?_) (fun hi => WP.up (WP.ret ?_))
    · refine WP.gn (by omega) fun x hx => WP.gn (by omega) fun y hy => WP.iteNb (WP.iteL (fun e => WP.ckI (by omega) (WP.ret ⟨⟨by omega, upto_succ g2 hx hy e⟩, by show a.length - (i + 1) < a.length - i; omega⟩)) (fun e => WP.up (WP.ret ?_)))
      show false = true ↔ a = b
      simp [upto_ne hx hy e]
    · show true = true ↔ a = b
      have e : i = a.length := by omega
      subst e
      simp [upto_end hl g2]
theorem Val.ext_iff' {a b : Val} : a = b ↔ a.k = b.k ∧ a.n = b.n ∧ a.s = b.s ∧ a.ks = b.ks ∧ a.l = b.l := by
  cases a; cases b
  simp only [Val.mk.injEq, Val.k, Val.n, Val.s, Val.l, Val.ks]
  constructor <;> rintro ⟨h1, h2, h3, h4, h5⟩ <;> exact ⟨h1, h2, h3, h5, h4⟩
theorem same_s {rc : Val → Val → Option Bool} {a b : Val} (hrc : ∀ x ∈ a.l, ∀ y, WP (rc x y) fun r => r = true ↔ x = y) (h1 : a.l.length ≤ 140737488355328) (h2 : a.ks.length ≤ 140737488355328) : WP (g_codec_Same_s rc a b) fun r => r = true ↔ a = b := by
  have no : ∀ {p : Prop}, ¬ p → (false = true ↔ p) := fun h => by simp [h]
  unfold g_codec_Same_s
  refine WP.iteE (fun ek => ?_) (fun ek => WP.ret (no fun e => ek (by rw [e])))
  refine WP.iteE (fun en => ?_) (fun en => WP.ret (no fun e => en (by rw [e])))
  refine WP.iteL (fun es => ?_) (fun es => WP.ret (no fun e => es (by rw [e])))
  refine WP.bdW ((equalS_eq h2).mono fun r hr => ?_)
  refine WP.iteB (fun er => ?_) (fun er => WP.ret (no fun e => by rw [hr.2 (by rw [e])] at er; cases er))
  have eks := hr.1 er
  unfold g_codec_Same_s_j1
  refine WP.iteN (fun h => WP.ret (no fun e => h (by rw [e]))) (fun h => ?_)
  have hl : a.l.length = b.l.length := by omega
  refine WP.loop (fun i => i ≤ a.l.length ∧ upto a.l b.l i) (fun i => a.l.length - i) ?_ ⟨by omega, fun j x y h => by omega⟩
  rintro i ⟨g1, g2⟩
  simp only [g_codec_Same_s_l3]
  refine WP.iteD (fun hi => ?_) (fun hi => WP.up (WP.ret ?_))
  · refine WP.gn (by omega) fun x hx => WP.gn (by omega) fun y hy => WP.bdW ((hrc x (List.mem_of_getElem? hx) y).mono fun q hq => ?_)
    refine WP.iteNb (WP.iteB (fun e => WP.ckI (by omega) (WP.ret ⟨⟨by omega, upto_succ g2 hx hy (hq.1 e)⟩, by show a.l.length - (i + 1) < a.l.length - i; omega⟩)) (fun e => WP.up (WP.ret ?_)))
    show false = true ↔ a = b
    exact no fun ee => upto_ne hx hy (fun e2 => by rw [hq.2 e2] at e; cases e) (by rw [ee])
  · show true = true ↔ a = b
    have e : i = a.l.length := by omega
    subst e
    simp only [true_iff]
    exact Val.ext_iff'.2 ⟨ek, en, es, eks, upto_end hl g2⟩
theorem same_eq : ∀ (fu : Nat) (a b : Val), hgt a ≤ fu → rng a → WP (g_codec_Same fu a b) fun r => r = true ↔ a = b
  | 0, .mk k n s l ks, b, h, _ => by simp [hgt] at h
  | fu + 1, .mk k n s l ks, b, h, hr => by
    simp only [hgt, Nat.add_le_add_iff_right, hgtL_le] at h
    simp only [rng, rngL_iff] at hr
    exact same_s (a := .mk k n s l ks) (fun x hx y => same_eq fu x y (h x hx) (hr.2.2.2.2.2.2 x hx)) hr.2.2.2.1 hr.2.2.2.2.1
/-- What Get finds. -/
def getV (v : Val) (key : List UInt8) : Val × Bool := if v.k = 4 then (match v.l[v.ks.idxOf key]? with | some x => if v.ks.idxOf key < v.ks.length then (x, true) else (zV, false) | none => (zV, false)) else (zV, false)
theorem idxOf_ne {a key : List UInt8} {l : List (List UInt8)} (h : a ≠ key) : (a :: l).idxOf key = l.idxOf key + 1 := by
  rw [List.idxOf_cons, beq_eq_false_iff_ne.2 h]; rfl
theorem idxOf_at {l : List (List UInt8)} {key : List UInt8} {i : Nat} (h1 : ∀ x ∈ l.take i, x ≠ key) (h2 : l[i]? = some key) : l.idxOf key = i := by
  induction l generalizing i with
  | nil => simp at h2
  | cons a l ih =>
    cases i with
    | zero => simp at h2; subst h2; simp
    | succ i =>
      have hne : a ≠ key := h1 a (by simp)
      rw [idxOf_ne hne, ih (i := i) (fun x hx => h1 x (by simp [hx])) (by simpa using h2)]
theorem idxOf_none {l : List (List UInt8)} {key : List UInt8} (h1 : ∀ x ∈ l, x ≠ key) : l.idxOf key = l.length := by
  induction l with
  | nil => rfl
  | cons a l ih =>
    have hne : a ≠ key := h1 a (by simp)
    rw [idxOf_ne hne, ih (fun x hx => h1 x (by simp [hx])), List.length_cons]
theorem indexS_eq {l : List (List UInt8)} {key : List UInt8} (hl : l.length ≤ 140737488355328) : g_slices_Index_Lstring_string l key = some (if l.idxOf key < l.length then ((l.idxOf key : Nat) : Int) else -1) := by
  refine WP.eq ?_
  unfold g_slices_Index_Lstring_string
  refine WP.loop (fun i => i ≤ l.length ∧ ∀ x ∈ l.take i, x ≠ key) (fun i => l.length - i) ?_ ⟨by omega, by simp⟩
  rintro i ⟨g1, g2⟩
  simp only [g_slices_Index_Lstring_string_l2]
  refine WP.iteD (fun hi => ?_) (fun hi => WP.up (WP.ret ?_))
  · refine WP.gn (by omega) fun x hx => WP.iteL (fun e => WP.up (WP.ret ?_)) (fun e => WP.ckI (by omega) (WP.ret ⟨⟨by omega, ?_⟩, by show l.length - (i + 1) < l.length - i; omega⟩))
    · subst e
      show ((i : Nat) : Int) = _
      rw [idxOf_at g2 hx, if_pos (by omega)]
    · intro y hy
      rw [List.take_add_one, hx] at hy
      rcases List.mem_append.1 hy with hy | hy
      · exact g2 y hy
      · simp at hy; subst hy; exact fun h => e h.symm
  · show (-1 : Int) = _
    have e : i = l.length := by omega
    rw [e, List.take_length] at g2
    rw [idxOf_none g2, if_neg (by omega)]
theorem get_eq {v : Val} {key : List UInt8} (h1 : v.ks.length ≤ 140737488355328) (h2 : v.l.length ≤ 140737488355328) : g_codec_Get v key = some (getV v key) := by
  refine WP.eq ?_
  unfold g_codec_Get
  refine WP.bd (indexS_eq h1) ?_
  unfold g_codec_Get_j1 getV
  refine WP.iteN (fun h => WP.iteT (WP.ret (by rw [if_neg h]; rfl))) (fun h => ?_)
  rw [if_pos h]
  by_cases hi : v.ks.idxOf key < v.ks.length
  · rw [if_pos hi]
    refine WP.iteD (fun h => by omega) (fun _ => WP.iteB (fun hb => WP.ret ?_) (fun hb => ?_))
    · have hb' := of_decide_eq_true hb
      rw [List.getElem?_eq_none (by omega)]; rfl
    · have hb' := of_decide_eq_false hb
      refine WP.gt (by omega) fun x hx => WP.ret ?_
      rw [show ((v.ks.idxOf key : Nat) : Int).toNat = v.ks.idxOf key by omega] at hx
      rw [hx]; simp [hi]
  · rw [if_neg hi]
    refine WP.iteD (fun h => WP.iteT (WP.ret ?_)) (fun h => by omega)
    cases v.l[v.ks.idxOf key]? with
    | none => rfl
    | some x => simp [hi]; rfl
end Go.Proofs.YtimalbkjflfdoaaDoor

/-
  Numerals and encodings of chapter 2 in plain Lean: the writers, the reference's encode. Conditions: those of each theorem.
-/
set_option linter.unusedVariables false
set_option linter.unusedSimpArgs false
set_option maxRecDepth 100000
namespace Go.Proofs.YtimalbkjflfdoaaDoor
open Go.DL
section
variable {α ρ : Type} {Q : ρ → Prop}
theorem WP.bdP {o : Option (α ⊕ Unit)} {k : α → Option ρ} {z : Option ρ} {x : α} (ho : o = some (.inl x)) (h : WP (k x) Q) : WP (Go.DL.bdP o k z) Q := by rw [ho]; exact h
theorem WP.bdPz {o : Option (α ⊕ Unit)} {k : α → Option ρ} {z : Option ρ} (ho : o = some (.inr ())) (h : WP z Q) : WP (Go.DL.bdP o k z) Q := by rw [ho]; exact h
end
theorem u64w {x : Int} (h0 : 0 ≤ x) (h1 : x < 18446744073709551616) : IntKind.u64.wrap x = x := by
  simp only [IntKind.wrap, IntKind.bits, IntKind.signed]
  simp
  omega
theorem u64n {x : Int} (h0 : -18446744073709551616 ≤ x) (h1 : x < 0) : IntKind.u64.wrap x = x + 18446744073709551616 := by
  simp only [IntKind.wrap, IntKind.bits, IntKind.signed]
  simp
  omega
theorem appInt_eq {dst : List UInt8} {n : Int} (h : i64 n) (hd : dst.length ≤ 70368744177664) : g_strconv_AppendInt dst n 10 = some (.inl (dst ++ Lib.itoa n)) := by
  obtain ⟨h1, h2⟩ := h
  refine WP.eq ?_
  unfold g_strconv_AppendInt g_strconv_AppendInt_j1 Lib.itoa
  refine WP.iteD (fun hn => ?_) (fun hn => ?_)
  · have e : IntKind.u64.wrap (0 - IntKind.u64.wrap n) = ((n.natAbs : Nat) : Int) := by
      rw [u64n (x := n) (by omega) hn, u64n (by omega) (by omega)]; omega
    rw [e]
    refine WP.ck (by simp; omega) (WP.ck (by simp; omega) (WP.ck (by omega) (WP.ck rfl (WP.ret ?_))))
    rw [if_pos hn, Int.toNat_natCast]; simp
  · have e : IntKind.u64.wrap n = ((n.toNat : Nat) : Int) := by rw [u64w (by omega) (by omega)]; omega
    rw [e, if_neg hn]
    refine WP.ck (by omega) (WP.ck (by omega) (WP.ck rfl (WP.ret ?_)))
    rw [Int.toNat_natCast]
theorem text_eq {b s : List UInt8} (hb : b.length ≤ 35184372088832) (h : s.length ≤ 35184372088832) : g_codec_text b s = some (.inl (b ++ txt s)) := by
  refine WP.eq ?_
  unfold g_codec_text
  refine WP.bdP (appInt_eq ⟨by omega, by omega⟩ (by omega)) ?_
  have := decDigits_len (u := s.length) (by omega)
  rw [Lib.itoa_nonneg]
  refine WP.ck (by simp; omega) (WP.ck (by simp; omega) (WP.ret ?_))
  simp [txt]
theorem w1_eq {b : List UInt8} {v : Val} (hk : v.k = 1) (hr : i64 v.n) (hb : b.length ≤ 35184372088832) : g_codec_newWriter_1 b v = some (.inl (b ++ enc v)) := by
  refine WP.eq ?_
  unfold g_codec_newWriter_1
  have := Lib.itoa_length_le v.n hr.1 hr.2
  refine WP.ck (by simp; omega) (WP.bdP (appInt_eq hr (by simp; omega)) (WP.ck (by simp; omega) (WP.ret ?_)))
  cases v with
  | mk k n s l ks => simp only [Val.k] at hk; subst hk; simp [enc, Val.n]
theorem w2_eq {b : List UInt8} {v : Val} (hk : v.k = 2) (hs : v.s.length ≤ 35184372088832) (hb : b.length ≤ 35184372088832) : g_codec_newWriter_2 b v = some (.inl (b ++ enc v)) := by
  refine WP.eq ?_
  unfold g_codec_newWriter_2
  refine WP.bdP (text_eq hb hs) (WP.ret ?_)
  cases v with
  | mk k n s l ks => simp only [Val.k] at hk; subst hk; simp [enc, Val.s]
/-- Which values the writers write, behind which bytes. -/
def Wr (b : List UInt8) (v : Val) : Prop := wf v = true ∧ rng v ∧ b.length + 300 * cnt v ≤ 17592186044416
theorem wf_k {v : Val} (h : wf v = true) : v.k = 1 ∨ v.k = 2 ∨ v.k = 3 ∨ v.k = 4 := by
  rcases Int.lt_or_le v.k 1 with h1 | h1
  · rw [wf_out (.inl h1)] at h; cases h
  rcases Int.lt_or_le 4 v.k with h2 | h2
  · rw [wf_out (.inr h2)] at h; cases h
  omega
theorem encL_take {l : List Val} {i : Nat} {x : Val} (h : l[i]? = some x) : encL (l.take (i + 1)) = encL (l.take i) ++ enc x := by
  rw [List.take_add_one, h, encL_append]; simp [encL]
theorem encD_take {ks : List (List UInt8)} {l : List Val} {i : Nat} {x : Val} {k : List UInt8} (h : l[i]? = some x) (hk : ks[i]? = some k) : encD ks (l.take (i + 1)) = encD ks (l.take i) ++ (txt k ++ enc x) := by
  have hi := (List.getElem?_eq_some_iff.1 h).1
  rw [List.take_add_one, h, encD_append]
  have e : (List.take i l).length = i := by simp; omega
  rw [e]
  have : (ks.drop i).headD [] = k := by
    rw [List.headD_eq_head?_getD, List.head?_drop, hk]; rfl
  simp only [Option.toList, encD, this, List.append_nil]
theorem cntL_take_le (l : List Val) (i : Nat) : cntL (l.take i) ≤ cntL l := by
  rw [← List.take_append_drop i l, cntL_append]
  rw [List.take_append_drop]
  omega
theorem keyS_take_le (l : List (List UInt8)) (i : Nat) : keyS (l.take i) ≤ keyS l := by
  have : keyS l = keyS (l.take i) + keyS (l.drop i) := by
    simp only [keyS, ← List.sum_append, ← List.map_append, List.take_append_drop]
  omega
theorem s_cnt (k n : Int) (s : List UInt8) (l : List Val) (ks : List (List UInt8)) : s.length ≤ 200 * cnt (.mk k n s l ks) := by simp only [cnt]; omega
theorem keyS_mem {ks : List (List UInt8)} {k : List UInt8} (h : k ∈ ks) : k.length / 50 ≤ keyS ks := by
  induction ks with
  | nil => cases h
  | cons a r ih =>
    simp only [keyS, List.map_cons, List.sum_cons]
    rcases List.mem_cons.1 h with rfl | h
    · omega
    · have := ih h; simp only [keyS] at this; omega
theorem k_cnt {k n : Int} {s : List UInt8} {l : List Val} {ks : List (List UInt8)} {x : List UInt8} (h : x ∈ ks) : x.length ≤ 50 * cnt (.mk k n s l ks) := by
  have := keyS_mem h
  simp only [cnt, keyS] at *
  omega
theorem w3_s {rc43 rc44 : List UInt8 → Val → Option (List UInt8 ⊕ Unit)} {b : List UInt8} {v : Val} (hk : v.k = 3) (hw : Wr b v)
    (h3 : ∀ x ∈ v.l, ∀ b, x.k = 3 → Wr b x → rc43 b x = some (.inl (b ++ enc x))) (h4 : ∀ x ∈ v.l, ∀ b, x.k = 4 → Wr b x → rc44 b x = some (.inl (b ++ enc x))) : WP (g_codec_newWriter_3_s rc43 rc44 b v) fun r => r = .inl (b ++ enc v) := by
  obtain ⟨w1, w2, w3⟩ := hw
  cases v with
  | mk k n s l ks =>
    simp only [Val.k] at hk
    simp only [Val.l] at h3 h4
    subst hk
    simp only [rng, rngL_iff] at w2
    obtain ⟨r1, r2, r3, r4, r5, r6, r7⟩ := w2
    have hwl : ∀ x ∈ l, wf x = true := by
      have : wfL l = true := by
        have := w1; simp only [wf] at this
        simp only [show ((3 : Int) == 1) = false by decide, show ((3 : Int) == 2) = false by decide, show ((3 : Int) == 4) = false by decide, Bool.false_and, Bool.false_or, Bool.or_false, Bool.and_eq_true] at this
        exact this.2
      exact wfL_iff.1 this
    have hc : 1 + cntL l ≤ cnt (.mk 3 n s l ks) := by simp only [cnt]; omega
    have henc : enc (.mk 3 n s l ks) = 108 :: (encL l ++ [101]) := by simp [enc]
    unfold g_codec_newWriter_3_s
    refine WP.ck (by simp; omega) ?_
    refine WP.loop (fun (p : Nat × List UInt8) => p.1 ≤ l.length ∧ p.2 = b ++ 108 :: encL (l.take p.1)) (fun p => l.length - p.1) ?_ ⟨by simp, by simp [encL]⟩
    rintro ⟨i, acc⟩ ⟨g1, g2⟩
    simp only at g1 g2
    have hlen : acc.length ≤ b.length + 1 + 300 * cntL (l.take i) := by
      have := encL_len (l.take i) (fun x hx => enc_len (r7 x (List.mem_of_mem_take hx)) (hwl x (List.mem_of_mem_take hx)))
      rw [g2]; simp; omega
    simp only [g_codec_newWriter_3_s_l2, Val.l]
    refine WP.iteD (fun hi => ?_) (fun hi => WP.up ?_)
    · have hi' : i < l.length := by omega
      refine WP.gn hi' fun x (hx : l[i]? = some x) => ?_
      have hxm := List.mem_of_getElem? hx
      have hct := cntL_take hx
      have hct2 := cntL_take_le l (i + 1)
      have hrx := r7 x hxm
      have hwx := hwl x hxm
      have hWr : Wr acc x := ⟨hwx, hrx, by omega⟩
      have hfin : WP (g_codec_newWriter_3_s_j3 i (.mk 3 n s l ks) (acc ++ enc x)) (Rnd (fun (p : Nat × List UInt8) => p.1 ≤ l.length ∧ p.2 = b ++ 108 :: encL (l.take p.1)) (fun p => l.length - p.1) (l.length - i) fun r => r = .inl (b ++ enc (.mk 3 n s l ks))) := by
        unfold g_codec_newWriter_3_s_j3
        refine WP.ckI (by omega) (WP.ret ⟨⟨by simp only; omega, ?_⟩, by simp only; omega⟩)
        simp only
        rw [encL_take hx, g2]; simp
      have hkx := wf_k hwx
      refine WP.iteE (fun h => by omega) (fun _ => WP.iteE (fun h => ?_) (fun _ => WP.iteE (fun h => ?_) (fun _ => WP.iteE (fun h => ?_) (fun _ => WP.ck (by omega) ?_))))
      · refine WP.bdP (w1_eq h ?_ (by omega)) hfin
        cases x with
        | mk k' n' s' l' ks' => simp only [rng] at hrx; exact hrx.2.1
      · refine WP.bdP (w2_eq h ?_ (by omega)) hfin
        cases x with
        | mk k' n' s' l' ks' => have := s_cnt k' n' s' l' ks'; simp only [Val.s]; omega
      · exact WP.bdP (h3 x hxm acc h hWr) hfin
      · exact WP.bdP (h4 x hxm acc (by omega) hWr) hfin
    · have e : i = l.length := by omega
      rw [e, List.take_length] at g2 hlen
      show WP (g_codec_newWriter_3_s_j1 acc) fun r => r = .inl (b ++ enc (.mk 3 n s l ks))
      unfold g_codec_newWriter_3_s_j1
      refine WP.ck (by simp; omega) (WP.ret ?_)
      rw [g2, henc]; simp
theorem w4_s {rc43 rc44 : List UInt8 → Val → Option (List UInt8 ⊕ Unit)} {b : List UInt8} {v : Val} (hk : v.k = 4) (hw : Wr b v)
    (h3 : ∀ x ∈ v.l, ∀ b, x.k = 3 → Wr b x → rc43 b x = some (.inl (b ++ enc x))) (h4 : ∀ x ∈ v.l, ∀ b, x.k = 4 → Wr b x → rc44 b x = some (.inl (b ++ enc x))) : WP (g_codec_newWriter_4_s rc43 rc44 b v) fun r => r = .inl (b ++ enc v) := by
  obtain ⟨w1, w2, w3⟩ := hw
  cases v with
  | mk k n s l ks =>
    simp only [Val.k] at hk
    simp only [Val.l] at h3 h4
    subst hk
    simp only [rng, rngL_iff] at w2
    obtain ⟨r1, r2, r3, r4, r5, r6, r7⟩ := w2
    have hw0 : ks.length = l.length ∧ wfL l = true := by
      have := w1; simp only [wf] at this
      simp only [show ((4 : Int) == 1) = false by decide, show ((4 : Int) == 2) = false by decide, show ((4 : Int) == 3) = false by decide, Bool.false_and, Bool.false_or, Bool.or_false, Bool.and_eq_true, beq_iff_eq] at this
      exact ⟨this.1.1.2, this.2⟩
    obtain ⟨hkl, hwl0⟩ := hw0
    have hwl := wfL_iff.1 hwl0
    have hc : 1 + ks.length + keyS ks + cntL l ≤ cnt (.mk 4 n s l ks) := by simp only [cnt, keyS]; omega
    have henc : enc (.mk 4 n s l ks) = 100 :: (encD ks l ++ [101]) := by simp [enc]
    unfold g_codec_newWriter_4_s
    refine WP.ck (by simp; omega) ?_
    refine WP.loop (fun (p : Nat × List UInt8) => p.1 ≤ l.length ∧ p.2 = b ++ 100 :: encD ks (l.take p.1)) (fun p => l.length - p.1) ?_ ⟨by simp, by simp [encD]⟩
    rintro ⟨i, acc⟩ ⟨g1, g2⟩
    simp only at g1 g2
    have hlen : acc.length ≤ b.length + 1 + 300 * (i + keyS (ks.take i) + cntL (l.take i)) := by
      have h9 : encD ks (l.take i) = encD (ks.take i) (l.take i) := by
        conv => lhs; rw [← List.take_append_drop i ks]
        exact encD_keys _ _ _ (by simp; omega)
      have := encD_len (ks.take i) (l.take i) (fun q hq => r6 q (List.mem_of_mem_take hq)) (fun x hx => enc_len (r7 x (List.mem_of_mem_take hx)) (hwl x (List.mem_of_mem_take hx))) (by simp; omega)
      rw [← h9] at this
      rw [g2]
      simp only [List.length_append, List.length_cons, List.length_take, keyS] at *
      omega
    simp only [g_codec_newWriter_4_s_l2, Val.l, Val.ks]
    refine WP.iteD (fun hi => ?_) (fun hi => WP.up ?_)
    · have hi' : i < l.length := by omega
      refine WP.gn hi' fun x (hx : l[i]? = some x) => ?_
      have hxm := List.mem_of_getElem? hx
      have hct := cntL_take hx
      have hct2 := cntL_take_le l (i + 1)
      have hrx := r7 x hxm
      have hwx := hwl x hxm
      obtain ⟨key, hkey⟩ : ∃ key, ks[i]? = some key := ⟨ks[i]'(by omega), List.getElem?_eq_getElem (by omega)⟩
      have hkm := List.mem_of_getElem? hkey
      have hkt := keyS_take hkey
      have hkt2 := keyS_take_le ks (i + 1)
      have hkc := k_cnt (k := 4) (n := n) (s := s) (l := l) hkm
      have htl := txt_len (r6 key hkm)
      have hWr : Wr (acc ++ txt key) x := ⟨hwx, hrx, by simp only [List.length_append]; omega⟩
      have hfin : WP (g_codec_newWriter_4_s_j3 i (.mk 4 n s l ks) ((acc ++ txt key) ++ enc x)) (Rnd (fun (p : Nat × List UInt8) => p.1 ≤ l.length ∧ p.2 = b ++ 100 :: encD ks (l.take p.1)) (fun p => l.length - p.1) (l.length - i) fun r => r = .inl (b ++ enc (.mk 4 n s l ks))) := by
        unfold g_codec_newWriter_4_s_j3
        refine WP.ckI (by omega) (WP.ret ⟨⟨by simp only; omega, ?_⟩, by simp only; omega⟩)
        simp only
        rw [encD_take hx hkey, g2]; simp
      have hkx := wf_k hwx
      have hgk : ∀ {Q : _ → Prop} {kk : List UInt8 → Option ((Nat × List UInt8) ⊕ (List UInt8 ⊕ Unit))}, WP (kk key) Q → WP (gn ks i kk) Q := fun h => by rw [gn_some hkey]; exact h
      have htx := text_eq (b := acc) (s := key) (by omega) (by omega)
      refine WP.iteE (fun h => by omega) (fun _ => WP.iteE (fun h => hgk (WP.bdP htx ?_)) (fun _ => WP.iteE (fun h => hgk (WP.bdP htx ?_)) (fun _ => WP.iteE (fun h => hgk (WP.bdP htx ?_)) (fun _ => WP.ck (by omega) (hgk (WP.bdP htx ?_))))))
      · refine WP.bdP (w1_eq h ?_ (by have := hWr.2.2; omega)) hfin
        cases x with
        | mk k' n' s' l' ks' => simp only [rng] at hrx; exact hrx.2.1
      · refine WP.bdP (w2_eq h ?_ (by have := hWr.2.2; omega)) hfin
        cases x with
        | mk k' n' s' l' ks' => have := s_cnt k' n' s' l' ks'; simp only [Val.s]; omega
      · exact WP.bdP (h3 x hxm _ h hWr) hfin
      · exact WP.bdP (h4 x hxm _ (by omega) hWr) hfin
    · have e : i = l.length := by omega
      have hkt2 := keyS_take_le ks i
      rw [e, List.take_length] at g2 hlen
      rw [e] at hkt2
      show WP (g_codec_newWriter_4_s_j1 acc) fun r => r = .inl (b ++ enc (.mk 4 n s l ks))
      unfold g_codec_newWriter_4_s_j1
      refine WP.ck (by simp; omega) (WP.ret ?_)
      rw [g2, henc]; simp
theorem writer_eq : ∀ (fu : Nat) (v : Val) (b : List UInt8), hgt v ≤ fu → Wr b v → (v.k = 3 → (g_writer fu).1 b v = some (.inl (b ++ enc v))) ∧ (v.k = 4 → (g_writer fu).2 b v = some (.inl (b ++ enc v)))
  | 0, .mk k n s l ks, b, h, _ => by simp [hgt] at h
  | fu + 1, .mk k n s l ks, b, h, hw => by
    simp only [hgt, Nat.add_le_add_iff_right, hgtL_le] at h
    refine ⟨fun hk => WP.eq (w3_s hk hw (fun x hx b h3 hwx => (writer_eq fu x b (h x hx) hwx).1 h3) fun x hx b h4 hwx => (writer_eq fu x b (h x hx) hwx).2 h4),
      fun hk => WP.eq (w4_s hk hw (fun x hx b h3 hwx => (writer_eq fu x b (h x hx) hwx).1 h3) fun x hx b h4 hwx => (writer_eq fu x b (h x hx) hwx).2 h4)⟩
end Go.Proofs.YtimalbkjflfdoaaDoor

/-
  Encode of chapter 2 (program and reference) in plain Lean. Conditions: those of each theorem.
-/
set_option linter.unusedVariables false
set_option linter.unusedSimpArgs false
set_option maxRecDepth 100000
namespace Go.Proofs.YtimalbkjflfdoaaDoor
open Go.DL
/-- Values that can be handled: not too high, not too large. -/
def Ok (v : Val) : Prop := rng v ∧ hgt v ≤ 60 ∧ cnt v ≤ 50000000000
def encR (v : Val) : List UInt8 × Int := if chk v = 0 then (enc v, 0) else ([], chk v)
theorem chk0 {v : Val} : chk v = 0 ↔ wf v = true ∧ dep v ≤ 16 := by
  unfold chk
  by_cases hw : wf v = true
  · rw [if_pos hw]
    by_cases hd : 16 < dep v
    · rw [if_pos hd]; simp [hw]; omega
    · rw [if_neg hd]; simp [hw]; omega
  · rw [if_neg hw]; simp [hw]
theorem Encode_eq {v : Val} (h : Ok v) : g_codec_Encode v = some (.inl (encR v)) := by
  obtain ⟨h1, h2, h3⟩ := h
  refine WP.eq ?_
  unfold g_codec_Encode encR
  refine WP.bd (check_eq h2 h1) (WP.iteN (fun h => WP.ret (by rw [if_neg h])) (fun h => ?_))
  rw [if_pos h]
  have hw := (chk0.1 h).1
  have hk := wf_k hw
  have hWr : Wr [] v := ⟨hw, h1, by simp only [List.length_nil]; omega⟩
  have hwe := writer_eq 60 v [] h2 hWr
  refine WP.iteE (fun h => by omega) (fun _ => WP.iteE (fun hk1 => ?_) (fun _ => WP.iteE (fun hk2 => ?_) (fun _ => WP.iteE (fun hk3 => ?_) (fun _ => WP.ck (by omega) ?_))))
  · refine WP.bdP (w1_eq hk1 ?_ (by simp)) (WP.ret rfl)
    cases v with
    | mk k n s l ks => simp only [rng] at h1; exact h1.2.1
  · refine WP.bdP (w2_eq hk2 ?_ (by simp)) (WP.ret rfl)
    cases v with
    | mk k n s l ks => have := s_cnt k n s l ks; simp only [Val.s]; omega
  · exact WP.bdP (hwe.1 hk3) (WP.ret rfl)
  · exact WP.bdP (hwe.2 (by omega)) (WP.ret rfl)
end Go.Proofs.YtimalbkjflfdoaaDoor

/-
  Encodings of chapter 2 are prefix-free; numerals are read back. Conditions: those of each theorem.
-/
set_option linter.unusedVariables false
set_option linter.unusedSimpArgs false
set_option maxRecDepth 100000
namespace Go.Proofs.YtimalbkjflfdoaaDoor
open Go.DL
theorem parseM_append (M : Nat) : ∀ (a b : List UInt8) (acc x : Nat), Lib.parseUintM M acc a = .ok x → Lib.parseUintM M acc (a ++ b) = Lib.parseUintM M x b
  | [], b, acc, x, h => by
    simp only [Lib.parseUintM] at h
    injection h with h
    subst h; rfl
  | c :: a, b, acc, x, h => by
    simp only [Lib.parseUintM, List.cons_append] at h ⊢
    split at h
    · rename_i h1
      rw [if_pos h1]
      split at h
      · cases h
      · rename_i h2
        rw [if_neg h2]
        split at h
        · cases h
        · rename_i h3
          rw [if_neg h3]
          exact parseM_append M a b _ x h
    · cases h
theorem digit_toNat {d : Nat} (h : d < 10) : (UInt8.ofNat (48 + d)).toNat = 48 + d := by
  rw [UInt8.toNat_ofNat']; omega
theorem parseM_digits : ∀ (u : Nat), u ≤ 18446744073709551615 → Lib.parseUintM 18446744073709551615 0 (Lib.decDigits u) = .ok u := by
  intro u
  induction u using Nat.strongRecOn with
  | _ u ih =>
    intro hu
    by_cases h : u < 10
    · rw [Lib.decDigits_one h]
      simp only [Lib.parseUintM, digit_toNat h]
      rw [if_pos (by omega), if_neg (by omega), if_neg (by omega)]
      simp
    · rw [Lib.decDigits.eq_1 u, dif_neg h, parseM_append _ _ _ _ _ (ih (u / 10) (by omega) (by omega))]
      simp only [Lib.parseUintM, digit_toNat (show u % 10 < 10 by omega)]
      rw [if_pos (by omega), if_neg (by omega), if_neg (by omega)]
      congr 1; omega
theorem decDigits_ne (u : Nat) : Lib.decDigits u ≠ [] := fun h => by
  have := Lib.decDigits_length u
  rw [h] at this
  have := Lib.nDigits_pos u
  simp at *; omega
theorem decDigits_mem : ∀ (u : Nat), ∀ c ∈ Lib.decDigits u, 48 ≤ c.toNat ∧ c.toNat ≤ 57 := by
  intro u
  induction u using Nat.strongRecOn with
  | _ u ih =>
    intro c hc
    by_cases h : u < 10
    · rw [Lib.decDigits_one h] at hc
      simp only [List.mem_singleton] at hc
      subst hc
      rw [digit_toNat h]; omega
    · rw [Lib.decDigits.eq_1 u, dif_neg h, List.mem_append] at hc
      rcases hc with hc | hc
      · exact ih (u / 10) (by omega) c hc
      · simp only [List.mem_singleton] at hc
        subst hc
        rw [digit_toNat (by omega)]; omega
theorem decDigits_cons (u : Nat) : ∃ c r, Lib.decDigits u = c :: r ∧ 48 ≤ c.toNat ∧ c.toNat ≤ 57 := by
  cases h : Lib.decDigits u with
  | nil => exact absurd h (decDigits_ne u)
  | cons c r => exact ⟨c, r, rfl, decDigits_mem u c (by rw [h]; exact List.mem_cons_self)⟩
theorem parseU_digits {u : Nat} (hu : u ≤ 18446744073709551615) : Lib.parseUintB 64 (Lib.decDigits u) = .ok u := by
  unfold Lib.parseUintB
  rw [if_neg (decDigits_ne u)]
  exact parseM_digits u hu
theorem parse_itoa {n : Int} (h : i64 n) : parseO (Lib.itoa n) = some n := by
  obtain ⟨h1, h2⟩ := h
  unfold parseO Lib.itoa
  by_cases hn : n < 0
  · rw [if_pos hn, Lib.parseIntB_minus, parseU_digits (by omega)]
    simp only [Lib.signedC]
    rw [if_neg (by omega)]
    simp only [Option.some.injEq]; omega
  · rw [if_neg hn]
    obtain ⟨c, r, hc, hc1, hc2⟩ := decDigits_cons n.toNat
    rw [hc, Lib.parseIntB_plain 64 c r (by omega) (by omega), ← hc, parseU_digits (by omega)]
    simp only [Lib.signlessC]
    rw [if_neg (by omega)]
    simp only [Option.some.injEq]; omega
theorem parse_i64 {s : List UInt8} {n : Int} (h : parseO s = some n) : i64 n := by
  unfold parseO at h
  split at h
  · rename_i v hv
    cases h
    cases s with
    | nil => simp [Lib.parseIntB] at hv
    | cons c r =>
      by_cases h43 : c.toNat = 43
      · have : c = 43 := UInt8.toNat_inj.1 h43
        subst this
        rw [Lib.parseIntB_plus] at hv
        cases hp : Lib.parseUintB 64 r <;> rw [hp] at hv <;> simp only [Lib.signlessC] at hv
        · split at hv
          · cases hv
          · injection hv with hv; exact ⟨by omega, by omega⟩
        all_goals cases hv
      · by_cases h45 : c.toNat = 45
        · have : c = 45 := UInt8.toNat_inj.1 h45
          subst this
          rw [Lib.parseIntB_minus] at hv
          cases hp : Lib.parseUintB 64 r <;> rw [hp] at hv <;> simp only [Lib.signedC] at hv
          · split at hv
            · cases hv
            · injection hv with hv; exact ⟨by omega, by omega⟩
          all_goals cases hv
        · rw [Lib.parseIntB_plain 64 c r h43 h45] at hv
          cases hp : Lib.parseUintB 64 (c :: r) <;> rw [hp] at hv <;> simp only [Lib.signlessC] at hv
          · split at hv
            · cases hv
            · injection hv with hv; exact ⟨by omega, by omega⟩
          all_goals cases hv
  · cases h
theorem itoa_inj {m n : Int} (hm : i64 m) (hn : i64 n) (h : Lib.itoa m = Lib.itoa n) : m = n := by
  have h1 := parse_itoa hm
  rw [h, parse_itoa hn] at h1
  exact (Option.some.inj h1).symm
theorem itoa_mem {n : Int} {c : UInt8} (h : c ∈ Lib.itoa n) : c.toNat = 45 ∨ 48 ≤ c.toNat ∧ c.toNat ≤ 57 := by
  unfold Lib.itoa at h
  split at h
  · rcases List.mem_cons.1 h with rfl | h
    · exact .inl rfl
    · exact .inr (decDigits_mem _ c h)
  · exact .inr (decDigits_mem _ c h)
theorem itoa_len20 {n : Int} (h : i64 n) : (Lib.itoa n).length ≤ 20 := by
  obtain ⟨h1, h2⟩ := h
  have key : ∀ k u, u < 10 ^ (k + 1) → Lib.nDigits u ≤ k + 1 := by
    intro k
    induction k with
    | zero => intro u h; rw [Lib.nDigits_small (by simpa using h)]; omega
    | succ k ih =>
      intro u h
      by_cases hs : u < 10
      · rw [Lib.nDigits_small hs]; omega
      · rw [Lib.nDigits_big hs]
        have := ih (u / 10) (by rw [Nat.pow_succ] at h; omega)
        omega
  have k19 : ∀ u, u < 10000000000000000000 → (Lib.decDigits u).length ≤ 19 := fun u hu => by rw [Lib.decDigits_length]; exact key 18 u hu
  unfold Lib.itoa
  split
  · have := k19 n.natAbs (by omega)
    simp only [List.length_cons]; omega
  · have := k19 n.toNat (by omega)
    omega
/-- Where a byte that is not in the beginning comes first. -/
theorem split_at {c : UInt8} : ∀ {a a' b b' : List UInt8}, c ∉ a → c ∉ a' → a ++ c :: b = a' ++ c :: b' → a = a' ∧ b = b'
  | [], [], b, b', _, _, h => by simpa using h
  | [], x :: a', b, b', _, h2, h => by
    simp only [List.nil_append, List.cons_append, List.cons.injEq] at h
    exact absurd (h.1 ▸ List.mem_cons_self) h2
  | x :: a, [], b, b', h1, _, h => by
    simp only [List.nil_append, List.cons_append, List.cons.injEq] at h
    exact absurd (h.1 ▸ List.mem_cons_self) h1
  | x :: a, y :: a', b, b', h1, h2, h => by
    simp only [List.cons_append, List.cons.injEq] at h
    obtain ⟨rfl, h⟩ := h
    obtain ⟨rfl, rfl⟩ := split_at (fun hh => h1 (List.mem_cons_of_mem _ hh)) (fun hh => h2 (List.mem_cons_of_mem _ hh)) h
    exact ⟨rfl, rfl⟩
theorem idxOf_split {c : UInt8} {a b : List UInt8} (h : c ∉ a) : (a ++ c :: b).idxOf c = a.length := by
  induction a with
  | nil => simp
  | cons x a ih =>
    have hne : x ≠ c := fun e => h (e ▸ List.mem_cons_self)
    rw [List.cons_append, List.idxOf_cons, beq_eq_false_iff_ne.2 hne, ih (fun hh => h (List.mem_cons_of_mem _ hh))]
    rfl
theorem itoa_split {c : UInt8} (hc : 58 ≤ c.toNat) {m n : Int} {a b : List UInt8} (hm : i64 m) (hn : i64 n) (h : Lib.itoa m ++ c :: a = Lib.itoa n ++ c :: b) : m = n ∧ a = b := by
  have no : ∀ n : Int, c ∉ Lib.itoa n := fun n hh => by have := itoa_mem hh; omega
  obtain ⟨h1, h2⟩ := split_at (no m) (no n) h
  exact ⟨itoa_inj hm hn h1, h2⟩
theorem txt_itoa (s : List UInt8) : txt s = Lib.itoa ((s.length : Nat) : Int) ++ 58 :: s := by rw [Lib.itoa_nonneg]; rfl
theorem txt_split {s t a b : List UInt8} (hs : s.length ≤ 140737488355328) (ht : t.length ≤ 140737488355328) (h : txt s ++ a = txt t ++ b) : s = t ∧ a = b := by
  rw [txt_itoa, txt_itoa] at h
  simp only [List.append_assoc, List.cons_append] at h
  obtain ⟨h1, h2⟩ := itoa_split (c := 58) (by decide) ⟨by omega, by omega⟩ ⟨by omega, by omega⟩ h
  have hl : s.length = t.length := by omega
  exact List.append_inj h2 hl
/-- The first byte of an encoding. -/
theorem txt_first (s : List UInt8) : ∃ c r, txt s = c :: r ∧ 48 ≤ c.toNat ∧ c.toNat ≤ 57 := by
  obtain ⟨c, r, h, h1⟩ := decDigits_cons s.length
  exact ⟨c, r ++ 58 :: s, by rw [txt, h]; rfl, h1⟩
theorem enc_first {v : Val} (hw : wf v = true) : ∃ c r, enc v = c :: r ∧ ((v.k = 1 ∧ c = 105) ∨ (v.k = 2 ∧ 48 ≤ c.toNat ∧ c.toNat ≤ 57) ∨ (v.k = 3 ∧ c = 108) ∨ (v.k = 4 ∧ c = 100)) := by
  have hk := wf_k hw
  cases v with
  | mk k n s l ks =>
    simp only [Val.k] at hk ⊢
    rcases hk with rfl | rfl | rfl | rfl
    · exact ⟨105, Lib.itoa n ++ [101], by simp [enc], .inl ⟨rfl, rfl⟩⟩
    · obtain ⟨c, r, h, h1⟩ := txt_first s
      exact ⟨c, r, by simp [enc, h], .inr (.inl ⟨rfl, h1⟩)⟩
    · exact ⟨108, encL l ++ [101], by simp [enc], .inr (.inr (.inl ⟨rfl, rfl⟩))⟩
    · exact ⟨100, encD ks l ++ [101], by simp [enc], .inr (.inr (.inr ⟨rfl, rfl⟩))⟩
theorem first_ne {v : Val} (hw : wf v = true) {a b : List UInt8} (h : enc v ++ a = 101 :: b) : False := by
  obtain ⟨c, r, he, hc⟩ := enc_first hw
  rw [he, List.cons_append, List.cons.injEq] at h
  obtain ⟨rfl, _⟩ := h
  rcases hc with ⟨_, h⟩ | ⟨_, h, h2⟩ | ⟨_, h⟩ | ⟨_, h⟩
  · exact absurd h (by decide)
  · simp at h2
  · exact absurd h (by decide)
  · exact absurd h (by decide)
theorem txt_ne {s a b : List UInt8} (h : txt s ++ a = 101 :: b) : False := by
  obtain ⟨c, r, he, h1, h2⟩ := txt_first s
  rw [he, List.cons_append, List.cons.injEq] at h
  obtain ⟨rfl, _⟩ := h
  simp at h2
theorem encL_split : ∀ {l m : List Val} {a b : List UInt8}, (∀ x ∈ l, ∀ (y : Val) (a b : List UInt8), y ∈ m → enc x ++ a = enc y ++ b → x = y ∧ a = b) → (∀ x ∈ l, wf x = true) → (∀ x ∈ m, wf x = true) → encL l ++ 101 :: a = encL m ++ 101 :: b → l = m ∧ a = b
  | [], [], a, b, _, _, _, h => by simpa [encL] using h
  | [], y :: m, a, b, _, _, h3, h => by
    simp only [encL, List.nil_append, List.append_assoc] at h
    exact (first_ne (h3 y List.mem_cons_self) h.symm).elim
  | x :: l, [], a, b, _, h2, _, h => by
    simp only [encL, List.nil_append, List.append_assoc] at h
    exact (first_ne (h2 x List.mem_cons_self) h).elim
  | x :: l, y :: m, a, b, h1, h2, h3, h => by
    simp only [encL, List.append_assoc] at h
    obtain ⟨rfl, h4⟩ := h1 x List.mem_cons_self y _ _ List.mem_cons_self h
    obtain ⟨rfl, rfl⟩ := encL_split (fun p hp q a b hq => h1 p (List.mem_cons_of_mem _ hp) q a b (List.mem_cons_of_mem _ hq)) (fun p hp => h2 p (List.mem_cons_of_mem _ hp)) (fun p hp => h3 p (List.mem_cons_of_mem _ hp)) h4
    exact ⟨rfl, rfl⟩
theorem encD_split : ∀ {ks js : List (List UInt8)} {l m : List Val} {a b : List UInt8}, (∀ x ∈ l, ∀ (y : Val) (a b : List UInt8), y ∈ m → enc x ++ a = enc y ++ b → x = y ∧ a = b) → (∀ x ∈ l, wf x = true) → (∀ x ∈ m, wf x = true) → ks.length = l.length → js.length = m.length →
    (∀ k ∈ ks, k.length ≤ 140737488355328) → (∀ k ∈ js, k.length ≤ 140737488355328) → encD ks l ++ 101 :: a = encD js m ++ 101 :: b → ks = js ∧ l = m ∧ a = b
  | [], [], [], [], a, b, _, _, _, _, _, _, _, h => by simpa [encD] using h
  | ks, js, [], y :: m, a, b, _, _, h3, _, _, _, _, h => by
    simp only [encD, List.nil_append, List.append_assoc] at h
    exact (txt_ne h.symm).elim
  | ks, js, x :: l, [], a, b, _, h2, _, _, _, _, _, h => by
    simp only [encD, List.nil_append, List.append_assoc] at h
    exact (txt_ne h).elim
  | k :: ks, j :: js, x :: l, y :: m, a, b, h1, h2, h3, h4, h5, h6, h7, h => by
    simp only [encD, List.append_assoc, List.headD_cons, List.tail_cons] at h
    obtain ⟨e1, h8⟩ := txt_split (h6 k List.mem_cons_self) (h7 j List.mem_cons_self) h
    obtain ⟨e2, h9⟩ := h1 x List.mem_cons_self y _ _ List.mem_cons_self h8
    subst e1; subst e2
    obtain ⟨rfl, rfl, rfl⟩ := encD_split (fun p hp q a b hq => h1 p (List.mem_cons_of_mem _ hp) q a b (List.mem_cons_of_mem _ hq)) (fun p hp => h2 p (List.mem_cons_of_mem _ hp)) (fun p hp => h3 p (List.mem_cons_of_mem _ hp)) (by simpa using h4) (by simpa using h5) (fun q hq => h6 q (List.mem_cons_of_mem _ hq)) (fun q hq => h7 q (List.mem_cons_of_mem _ hq)) h9
    exact ⟨rfl, rfl, rfl⟩
  | [], _ :: _, [], [], _, _, _, _, _, _, h5, _, _, _ => by simp at h5
  | _ :: _, _, [], [], _, _, _, _, _, h4, _, _, _, _ => by simp at h4
  | [], _, _ :: _, _ :: _, _, _, _, _, _, h4, _, _, _, _ => by simp at h4
  | _ :: _, [], _ :: _, _ :: _, _, _, _, _, _, _, h5, _, _, _ => by simp at h5
theorem wf3 {n : Int} {s : List UInt8} {l : List Val} {ks : List (List UInt8)} (h : wf (.mk 3 n s l ks) = true) : n = 0 ∧ s = [] ∧ ks = [] ∧ ∀ x ∈ l, wf x = true := by
  simp (config := { decide := true }) [wf, wfL_iff] at h
  exact ⟨h.1.1.1, h.1.1.2, h.1.2, h.2⟩
theorem wf4 {n : Int} {s : List UInt8} {l : List Val} {ks : List (List UInt8)} (h : wf (.mk 4 n s l ks) = true) : n = 0 ∧ s = [] ∧ ks.length = l.length ∧ incr ks = true ∧ ∀ x ∈ l, wf x = true := by
  simp (config := { decide := true }) [wf, wfL_iff] at h
  exact ⟨h.1.1.1.1, h.1.1.1.2, h.1.1.2, h.1.2, h.2⟩
theorem wf1 {n : Int} {s : List UInt8} {l : List Val} {ks : List (List UInt8)} (h : wf (.mk 1 n s l ks) = true) : s = [] ∧ l = [] ∧ ks = [] := by
  simp (config := { decide := true }) [wf] at h
  exact ⟨h.1.1, h.1.2, h.2⟩
theorem wf2 {n : Int} {s : List UInt8} {l : List Val} {ks : List (List UInt8)} (h : wf (.mk 2 n s l ks) = true) : n = 0 ∧ l = [] ∧ ks = [] := by
  simp (config := { decide := true }) [wf] at h
  exact ⟨h.1.1, h.1.2, h.2⟩
/-- No encoding is the beginning of another one. -/
theorem enc_split {v : Val} : ∀ {w : Val} {a b : List UInt8}, rng v → rng w → wf v = true → wf w = true → enc v ++ a = enc w ++ b → v = w ∧ a = b := by
  induction v using Val.ind with
  | h k n s l ks ih =>
    intro w a b hv hw h1 h2 h
    obtain ⟨c, r, e1, c1⟩ := enc_first h1
    obtain ⟨c', r', e2, c2⟩ := enc_first h2
    have hcc : c = c' := by
      rw [e1, e2, List.cons_append, List.cons_append, List.cons.injEq] at h
      exact h.1
    subst hcc
    cases w with
    | mk k' n' s' l' ks' =>
      simp only [Val.k] at c1 c2
      simp only [rng, rngL_iff] at hv hw
      obtain ⟨r1, r2, r3, r4, r5, r6, r7⟩ := hv
      obtain ⟨q1, q2, q3, q4, q5, q6, q7⟩ := hw
      rcases c1 with ⟨rfl, rfl⟩ | ⟨rfl, d1, d2⟩ | ⟨rfl, rfl⟩ | ⟨rfl, rfl⟩
      · have hk : k' = 1 := by
          rcases c2 with ⟨h, _⟩ | ⟨_, _, h⟩ | ⟨_, h⟩ | ⟨_, h⟩
          · exact h
          · simp at h
          · exact absurd h (by decide)
          · exact absurd h (by decide)
        subst hk
        obtain ⟨rfl, rfl, rfl⟩ := wf1 h1
        obtain ⟨rfl, rfl, rfl⟩ := wf1 h2
        simp only [enc, if_true, List.cons_append, List.cons.injEq, true_and, List.append_assoc, List.nil_append] at h
        obtain ⟨rfl, rfl⟩ := itoa_split (c := 101) (by decide) r2 q2 h
        exact ⟨rfl, rfl⟩
      · have hk : k' = 2 := by
          rcases c2 with ⟨_, h⟩ | ⟨h, _⟩ | ⟨_, h⟩ | ⟨_, h⟩
          · subst h; simp at d2
          · exact h
          · subst h; simp at d2
          · subst h; simp at d2
        subst hk
        obtain ⟨rfl, rfl, rfl⟩ := wf2 h1
        obtain ⟨rfl, rfl, rfl⟩ := wf2 h2
        simp (config := { decide := true }) only [enc, if_true, if_false] at h
        obtain ⟨rfl, rfl⟩ := txt_split r3 q3 h
        exact ⟨rfl, rfl⟩
      · have hk : k' = 3 := by
          rcases c2 with ⟨_, h⟩ | ⟨_, _, h⟩ | ⟨h, _⟩ | ⟨_, h⟩
          · exact absurd h (by decide)
          · simp at h
          · exact h
          · exact absurd h (by decide)
        subst hk
        obtain ⟨rfl, rfl, rfl, w1⟩ := wf3 h1
        obtain ⟨rfl, rfl, rfl, w2⟩ := wf3 h2
        simp (config := { decide := true }) only [enc, if_true, if_false, List.cons_append, List.cons.injEq, true_and, List.append_assoc, List.nil_append] at h
        obtain ⟨rfl, rfl⟩ := encL_split (fun x hx y a b hy he => ih x hx (r7 x hx) (q7 y hy) (w1 x hx) (w2 y hy) he) w1 w2 h
        exact ⟨rfl, rfl⟩
      · have hk : k' = 4 := by
          rcases c2 with ⟨_, h⟩ | ⟨_, _, h⟩ | ⟨_, h⟩ | ⟨h, _⟩
          · exact absurd h (by decide)
          · simp at h
          · exact absurd h (by decide)
          · exact h
        subst hk
        obtain ⟨rfl, rfl, g1, _, w1⟩ := wf4 h1
        obtain ⟨rfl, rfl, g2, _, w2⟩ := wf4 h2
        simp (config := { decide := true }) only [enc, if_true, if_false, List.cons_append, List.cons.injEq, true_and, List.append_assoc, List.nil_append] at h
        obtain ⟨rfl, rfl, rfl⟩ := encD_split (fun x hx y a b hy he => ih x hx (r7 x hx) (q7 y hy) (w1 x hx) (w2 y hy) he) w1 w2 g1 g2 r6 q6 h
        exact ⟨rfl, rfl⟩
end Go.Proofs.YtimalbkjflfdoaaDoor

/-
  Facts on encodings of chapter 2: bounds that come of their length; beginnings of lists. Conditions: those of each theorem.
-/
set_option linter.unusedVariables false
set_option linter.unusedSimpArgs false
set_option maxRecDepth 100000
namespace Go.Proofs.YtimalbkjflfdoaaDoor
open Go.DL
mutual
def ints : Val → Prop
  | .mk _ n _ l _ => i64 n ∧ intsL l
def intsL : List Val → Prop
  | [] => True
  | v :: l => ints v ∧ intsL l
end
theorem intsL_iff {l : List Val} : intsL l ↔ ∀ x ∈ l, ints x := by
  induction l with
  | nil => simp [intsL]
  | cons v l ih => simp [intsL, ih]
theorem ints_rng {v : Val} (h : rng v) : ints v := by
  induction v using Val.ind with
  | h k n s l ks ih =>
    simp only [rng, rngL_iff] at h
    simp only [ints, intsL_iff]
    exact ⟨h.2.1, fun x hx => ih x hx (h.2.2.2.2.2.2 x hx)⟩
/-- A value within d lists. -/
def good (d : Nat) (v : Val) : Prop := wf v = true ∧ ints v ∧ dep v + d ≤ 16
theorem enc_pos {v : Val} (h : wf v = true) : 1 ≤ (enc v).length := by
  obtain ⟨c, r, e, _⟩ := enc_first h
  rw [e]; simp
theorem txt_ge (s : List UInt8) : s.length + 2 ≤ (txt s).length := by
  obtain ⟨c, r, e, _⟩ := decDigits_cons s.length
  simp only [txt, e, List.length_append, List.length_cons]; omega
theorem encL_ge : ∀ {l : List Val}, (∀ x ∈ l, wf x = true) → l.length ≤ (encL l).length
  | [], _ => by simp
  | v :: l, h => by
    have h1 := enc_pos (h v List.mem_cons_self)
    have h2 := encL_ge fun x hx => h x (List.mem_cons_of_mem _ hx)
    simp only [encL, List.length_append, List.length_cons]; omega
theorem encL_mem : ∀ {l : List Val} {x : Val}, x ∈ l → (enc x).length ≤ (encL l).length
  | v :: l, x, h => by
    simp only [encL, List.length_append]
    rcases List.mem_cons.1 h with rfl | h
    · omega
    · have := encL_mem h; omega
theorem encD_mem : ∀ {ks : List (List UInt8)} {l : List Val} {x : Val}, x ∈ l → (enc x).length ≤ (encD ks l).length
  | ks, v :: l, x, h => by
    simp only [encD, List.length_append]
    rcases List.mem_cons.1 h with rfl | h
    · omega
    · have := encD_mem (ks := ks.tail) h; omega
theorem encD_key : ∀ {ks : List (List UInt8)} {l : List Val} {k : List UInt8}, ks.length = l.length → k ∈ ks → k.length ≤ (encD ks l).length
  | q :: ks, [], k, h, _ => by simp at h
  | q :: ks, v :: l, k, h, hk => by
    simp only [encD, List.length_append, List.headD_cons, List.tail_cons]
    rcases List.mem_cons.1 hk with rfl | hk
    · have := txt_ge k; omega
    · have := encD_key (l := l) (by simpa using h) hk; omega
theorem encD_ge : ∀ {ks : List (List UInt8)} {l : List Val}, l.length ≤ (encD ks l).length
  | _, [] => by simp
  | ks, v :: l => by
    have h1 := txt_ge (ks.headD [])
    have h2 := encD_ge (ks := ks.tail) (l := l)
    simp only [encD, List.length_append, List.length_cons]; omega
theorem rng_of {v : Val} (hw : wf v = true) (hi : ints v) (hl : (enc v).length ≤ 140737488355328) : rng v := by
  induction v using Val.ind with
  | h k n s l ks ih =>
    simp only [ints, intsL_iff] at hi
    have hk := wf_k hw
    simp only [Val.k] at hk
    simp only [rng, rngL_iff]
    rcases hk with rfl | rfl | rfl | rfl
    · obtain ⟨rfl, rfl, rfl⟩ := wf1 hw
      refine ⟨⟨by omega, by omega⟩, hi.1, by simp, by simp, by simp, by simp, by simp⟩
    · obtain ⟨rfl, rfl, rfl⟩ := wf2 hw
      simp (config := { decide := true }) only [enc, if_true, if_false] at hl
      have := txt_ge s
      refine ⟨⟨by omega, by omega⟩, hi.1, by omega, by simp, by simp, by simp, by simp⟩
    · obtain ⟨rfl, rfl, rfl, w⟩ := wf3 hw
      simp (config := { decide := true }) only [enc, if_true, if_false, List.length_cons, List.length_append, List.length_nil] at hl
      have := encL_ge w
      refine ⟨⟨by omega, by omega⟩, hi.1, by simp, by omega, by simp, by simp, fun x hx => ih x hx (w x hx) (hi.2 x hx) ?_⟩
      have := encL_mem hx; omega
    · obtain ⟨rfl, rfl, g, _, w⟩ := wf4 hw
      simp (config := { decide := true }) only [enc, if_true, if_false, List.length_cons, List.length_append, List.length_nil] at hl
      have := encD_ge (ks := ks) (l := l)
      refine ⟨⟨by omega, by omega⟩, hi.1, by simp, by omega, by omega, fun k hk => ?_, fun x hx => ih x hx (w x hx) (hi.2 x hx) ?_⟩
      · have := encD_key g hk; omega
      · have := encD_mem (ks := ks) hx; omega
theorem cnt_le {v : Val} (hw : wf v = true) : cnt v ≤ (enc v).length := by
  induction v using Val.ind with
  | h k n s l ks ih =>
    have hk := wf_k hw
    simp only [Val.k] at hk
    rcases hk with rfl | rfl | rfl | rfl
    · obtain ⟨rfl, rfl, rfl⟩ := wf1 hw
      simp [cnt, enc, cntL]
    · obtain ⟨rfl, rfl, rfl⟩ := wf2 hw
      have := txt_ge s
      simp (config := { decide := true }) only [enc, if_true, if_false, cnt, cntL, List.map_nil, List.sum_nil, List.length_nil]
      omega
    · obtain ⟨rfl, rfl, rfl, w⟩ := wf3 hw
      have key : ∀ l : List Val, (∀ x ∈ l, cnt x ≤ (enc x).length) → cntL l ≤ (encL l).length := by
        intro l
        induction l with
        | nil => simp [cntL]
        | cons v l ihl =>
          intro h
          have h1 := h v List.mem_cons_self
          have h2 := ihl fun x hx => h x (List.mem_cons_of_mem _ hx)
          simp only [cntL, encL, List.length_append]; omega
      have := key l fun x hx => ih x hx (w x hx)
      simp (config := { decide := true }) only [enc, if_true, if_false, cnt, List.map_nil, List.sum_nil, List.length_nil, List.length_cons, List.length_append]
      omega
    · obtain ⟨rfl, rfl, g, _, w⟩ := wf4 hw
      have key : ∀ (l : List Val) (ks : List (List UInt8)), ks.length = l.length → (∀ x ∈ l, cnt x ≤ (enc x).length) → ks.length + keyS ks + cntL l ≤ (encD ks l).length := by
        intro l
        induction l with
        | nil => intro ks hk _; cases ks with
          | nil => simp [cntL, keyS]
          | cons _ _ => simp at hk
        | cons v l ihl =>
          intro ks hk h
          cases ks with
          | nil => simp at hk
          | cons k ks =>
            have h1 := h v List.mem_cons_self
            have h2 := ihl ks (by simpa using hk) fun x hx => h x (List.mem_cons_of_mem _ hx)
            have h3 := txt_ge k
            simp only [cntL, encD, List.length_append, List.headD_cons, List.tail_cons, keyS, List.map_cons, List.sum_cons, List.length_cons] at *
            omega
      have := key l ks g fun x hx => ih x hx (w x hx)
      simp only [keyS] at this
      simp (config := { decide := true }) only [enc, if_true, if_false, cnt, List.length_nil, List.length_cons, List.length_append]
      omega
theorem hgt_dep {v : Val} (hw : wf v = true) : hgt v ≤ dep v + 1 := by
  induction v using Val.ind with
  | h k n s l ks ih =>
    have hk := wf_k hw
    simp only [Val.k] at hk
    have sub : (∀ x ∈ l, wf x = true) → hgtL l ≤ depL l + 1 := fun w => hgtL_le.2 fun x hx => by
      have h1 := ih x hx (w x hx)
      have h2 := depL_le.1 (Nat.le_refl (depL l)) x hx
      omega
    rcases hk with rfl | rfl | rfl | rfl
    · obtain ⟨rfl, rfl, rfl⟩ := wf1 hw; simp [hgt, hgtL]
    · obtain ⟨rfl, rfl, rfl⟩ := wf2 hw; simp [hgt, hgtL]
    · obtain ⟨rfl, rfl, rfl, w⟩ := wf3 hw
      have := sub w
      simp (config := { decide := true }) only [hgt, dep, if_false]; omega
    · obtain ⟨rfl, rfl, g, _, w⟩ := wf4 hw
      have := sub w
      simp (config := { decide := true }) only [hgt, dep, if_false]; omega
/-- A decoded value can be handled. -/
theorem good_ok {d : Nat} {v : Val} (h : good d v) (hl : (enc v).length ≤ 50000000000) : Ok v := by
  obtain ⟨h1, h2, h3⟩ := h
  have := hgt_dep h1
  have := cnt_le h1
  exact ⟨rng_of h1 h2 (by omega), by omega, by omega⟩
/-! ### beginnings -/
theorem encL_pre : ∀ {L l : List Val} {r a : List UInt8}, (∀ x ∈ L, wf x = true ∧ rng x) → (∀ x ∈ l, wf x = true ∧ rng x) → encL L ++ r = encL l ++ 101 :: a → ∃ l2, l = L ++ l2 ∧ r = encL l2 ++ 101 :: a
  | [], l, r, a, _, _, h => ⟨l, rfl, by simpa [encL] using h⟩
  | x :: L, [], r, a, h1, _, h => by
    simp only [encL, List.nil_append, List.append_assoc] at h
    exact (first_ne (h1 x List.mem_cons_self).1 h).elim
  | x :: L, y :: l, r, a, h1, h2, h => by
    simp only [encL, List.append_assoc] at h
    obtain ⟨e1, h3⟩ := enc_split (h1 x List.mem_cons_self).2 (h2 y List.mem_cons_self).2 (h1 x List.mem_cons_self).1 (h2 y List.mem_cons_self).1 h
    subst e1
    obtain ⟨l2, rfl, h4⟩ := encL_pre (fun p hp => h1 p (List.mem_cons_of_mem _ hp)) (fun p hp => h2 p (List.mem_cons_of_mem _ hp)) h3
    exact ⟨l2, rfl, h4⟩
theorem encD_pre : ∀ {K ks : List (List UInt8)} {L l : List Val} {r a : List UInt8}, (∀ x ∈ L, wf x = true ∧ rng x) → (∀ x ∈ l, wf x = true ∧ rng x) → K.length = L.length → ks.length = l.length → (∀ k ∈ K, k.length ≤ 140737488355328) → (∀ k ∈ ks, k.length ≤ 140737488355328) →
    encD K L ++ r = encD ks l ++ 101 :: a → ∃ ks2 l2, ks = K ++ ks2 ∧ l = L ++ l2 ∧ r = encD ks2 l2 ++ 101 :: a
  | [], ks, [], l, r, a, _, _, _, _, _, _, h => ⟨ks, l, rfl, rfl, by simpa [encD] using h⟩
  | _ :: _, _, [], _, _, _, _, _, h, _, _, _, _ => by simp at h
  | [], _, _ :: _, _, _, _, _, _, h, _, _, _, _ => by simp at h
  | k :: K, ks, x :: L, [], r, a, h1, _, _, _, _, _, h => by
    simp only [encD, List.nil_append, List.append_assoc] at h
    exact (txt_ne h).elim
  | _, [], _, _ :: _, _, _, _, _, _, h, _, _, _ => by simp at h
  | k :: K, j :: ks, x :: L, y :: l, r, a, h1, h2, h3, h4, h5, h6, h => by
    simp only [encD, List.append_assoc, List.headD_cons, List.tail_cons] at h
    obtain ⟨e0, h7⟩ := txt_split (h5 k List.mem_cons_self) (h6 j List.mem_cons_self) h
    obtain ⟨e1, h8⟩ := enc_split (h1 x List.mem_cons_self).2 (h2 y List.mem_cons_self).2 (h1 x List.mem_cons_self).1 (h2 y List.mem_cons_self).1 h7
    subst e0; subst e1
    obtain ⟨ks2, l2, rfl, rfl, h9⟩ := encD_pre (fun p hp => h1 p (List.mem_cons_of_mem _ hp)) (fun p hp => h2 p (List.mem_cons_of_mem _ hp)) (by simpa using h3) (by simpa using h4) (fun q hq => h5 q (List.mem_cons_of_mem _ hq)) (fun q hq => h6 q (List.mem_cons_of_mem _ hq)) h8
    exact ⟨ks2, l2, rfl, rfl, h9⟩
theorem incr_append_one : ∀ {l : List (List UInt8)} {x : List UInt8}, incr l = true → (∀ y, l.getLast? = some y → Op.bytesLess y x = true) → incr (l ++ [x]) = true
  | [], x, _, _ => rfl
  | [a], x, _, h => by simp [incr, h a rfl]
  | a :: b :: l, x, h1, h2 => by
    simp only [incr, Bool.and_eq_true, List.cons_append] at h1 ⊢
    exact ⟨h1.1, incr_append_one (l := b :: l) h1.2 fun y hy => h2 y (by rw [List.getLast?_cons_cons]; exact hy)⟩
theorem incr_last : ∀ {l : List (List UInt8)} {x y : List UInt8} {r : List (List UInt8)}, incr (l ++ x :: r) = true → l.getLast? = some y → Op.bytesLess y x = true
  | [], x, y, r, _, h => by simp at h
  | [a], x, y, r, h1, h => by
    simp at h; subst h
    simp only [List.cons_append, List.nil_append, incr, Bool.and_eq_true] at h1
    exact h1.1
  | a :: b :: l, x, y, r, h1, h => by
    simp only [List.cons_append, incr, Bool.and_eq_true] at h1
    exact incr_last (l := b :: l) h1.2 (by rw [List.getLast?_cons_cons] at h; exact h)
end Go.Proofs.YtimalbkjflfdoaaDoor

/-
  The reader of chapter 2 in plain Lean: what reader.value reads. Conditions: those of each theorem.
-/
set_option linter.unusedVariables false
set_option linter.unusedSimpArgs false
set_option maxRecDepth 100000
namespace Go.Proofs.YtimalbkjflfdoaaDoor
open Go.DL
theorem indexB_eq {R : List UInt8} {c : UInt8} {C : Int} (hC : C = ((c.toNat : Nat) : Int)) (hR : R.length ≤ 140737488355328) : g_slices_Index_Lbyte_byte R C = some (if R.idxOf c < R.length then ((R.idxOf c : Nat) : Int) else -1) := by
  refine WP.eq ?_
  unfold g_slices_Index_Lbyte_byte
  have at_ : ∀ {l : List UInt8} {i : Nat}, (∀ x ∈ l.take i, x ≠ c) → l[i]? = some c → l.idxOf c = i := by
    intro l
    induction l with
    | nil => intro i _ h; simp at h
    | cons a l ih =>
      intro i h1 h2
      cases i with
      | zero => simp at h2; subst h2; simp
      | succ i =>
        have hne : a ≠ c := h1 a (by simp)
        rw [List.idxOf_cons, beq_eq_false_iff_ne.2 hne, ih (i := i) (fun x hx => h1 x (by simp [hx])) (by simpa using h2)]; rfl
  have none_ : ∀ {l : List UInt8}, (∀ x ∈ l, x ≠ c) → l.idxOf c = l.length := by
    intro l
    induction l with
    | nil => intro _; rfl
    | cons a l ih =>
      intro h1
      have hne : a ≠ c := h1 a (by simp)
      rw [List.idxOf_cons, beq_eq_false_iff_ne.2 hne, ih (fun x hx => h1 x (by simp [hx]))]; rfl
  refine WP.loop (fun i => i ≤ R.length ∧ ∀ x ∈ R.take i, x ≠ c) (fun i => R.length - i) ?_ ⟨by omega, by simp⟩
  rintro i ⟨g1, g2⟩
  simp only [g_slices_Index_Lbyte_byte_l2]
  refine WP.iteD (fun hi => ?_) (fun hi => WP.up (WP.ret ?_))
  · refine WP.gn (by omega) fun x hx => WP.iteE (fun e => WP.up (WP.ret ?_)) (fun e => WP.ckI (by omega) (WP.ret ⟨⟨by omega, ?_⟩, by show R.length - (i + 1) < R.length - i; omega⟩))
    · have : x = c := UInt8.toNat_inj.1 (by omega)
      subst this
      show ((i : Nat) : Int) = _
      rw [at_ g2 hx, if_pos (by omega)]
    · intro y hy
      rw [List.take_add_one, hx] at hy
      rcases List.mem_append.1 hy with hy | hy
      · exact g2 y hy
      · simp at hy; subst hy; exact fun h => e (by rw [h, hC])
  · show (-1 : Int) = _
    have e : i = R.length := by omega
    rw [e, List.take_length] at g2
    rw [none_ g2, if_neg (by omega)]
theorem idx_split {R : List UInt8} {c : UInt8} (h : R.idxOf c < R.length) : R = R.take (R.idxOf c) ++ c :: R.drop (R.idxOf c + 1) := by
  have h1 : R[R.idxOf c]'h = c := List.getElem_idxOf h
  conv => lhs; rw [← List.take_append_drop (R.idxOf c) R, List.drop_eq_getElem_cons h, h1]
theorem onP_some' {α ρ : Type} {x : Option α} {v : α} {f : α → Option ρ} {z : Option ρ} (h : x = some v) : onP x f z = f v := by rw [h]; rfl
theorem onP_none' {α ρ : Type} {x : Option α} {f : α → Option ρ} {z : Option ρ} (h : x = none) : onP x f z = z := by rw [h]; rfl
/-- A number up to an end. -/
theorem WP.num {ρ : Type} {Q : ρ → Prop} {R : List UInt8} {c : UInt8} {C : Int} (hC : C = ((c.toNat : Nat) : Int)) (hc : 58 ≤ c.toNat) (hR : R.length ≤ 70368744177664) {z1 z2 : Option ρ} {K : List UInt8 → List UInt8 → Int → Option ρ} {KZ : List UInt8 → List UInt8 → Option ρ}
    (hgood : ∀ n rest, i64 n → R = Lib.itoa n ++ c :: rest → WP (K (Lib.itoa n) rest n) Q)
    (hbad : (∀ n rest, i64 n → R ≠ Lib.itoa n ++ c :: rest) → WP z1 Q ∧ WP z2 Q ∧ (∀ s rest, WP (KZ s rest) Q) ∧ (∀ s rest n, i64 n → ¬ Lib.itoa n = s → WP (K s rest n) Q)) :
    WP (bd (g_slices_Index_Lbyte_byte R C) fun i => if (decide (i < 0)) = true then z1 else if (decide (i > 20)) = true then z2 else sb R none (some i) fun s => ckI (i + 1) <| sb R (some (i + 1)) none fun rest => ck (s.length ≤ 140737488355328) <| onP (parseO s) (fun n => K s rest n) (KZ s rest)) Q := by
  refine WP.bd (indexB_eq hC (by omega)) ?_
  by_cases hex : ∃ n rest, i64 n ∧ R = Lib.itoa n ++ c :: rest
  · obtain ⟨n, rest, hn, hr⟩ := hex
    have hno : c ∉ Lib.itoa n := fun hh => by have := itoa_mem hh; omega
    have hlen := itoa_len20 hn
    have hi : R.idxOf c = (Lib.itoa n).length := by rw [hr]; exact idxOf_split hno
    have hlt : R.idxOf c < R.length := by rw [hi, hr]; simp
    rw [if_pos hlt, hi]
    refine WP.iteD (fun h => by omega) (fun _ => WP.iteD (fun h => by omega) (fun _ => ?_))
    have hRl : (Lib.itoa n).length < R.length := by rw [← hi]; exact hlt
    refine WP.sb ⟨by simp, by simp, by simp; omega⟩ (WP.ckI (by omega) (WP.sb ⟨by simp; omega, by simp; omega, by simp⟩ ?_))
    have e1 : subList R none (some (((Lib.itoa n).length : Nat) : Int)) = Lib.itoa n := by
      show R.take _ = _
      rw [Int.toNat_natCast, hr, List.take_left]
    have e2 : subList R (some ((((Lib.itoa n).length : Nat) : Int) + 1)) none = rest := by
      show R.drop _ = _
      rw [show ((((Lib.itoa n).length : Nat) : Int) + 1).toNat = (Lib.itoa n).length + 1 by omega, hr]
      rw [show Lib.itoa n ++ c :: rest = (Lib.itoa n ++ [c]) ++ rest by simp]
      rw [show (Lib.itoa n).length + 1 = (Lib.itoa n ++ [c]).length by simp, List.drop_left]
    rw [e1, e2]
    refine WP.ck (by omega) ?_
    rw [onP_some' (parse_itoa hn)]
    exact hgood n rest hn hr
  · obtain ⟨b1, b2, b3, b4⟩ := hbad fun n rest hn hr => hex ⟨n, rest, hn, hr⟩
    by_cases hlt : R.idxOf c < R.length
    · rw [if_pos hlt]
      refine WP.iteD (fun h => b1) (fun _ => WP.iteD (fun h => b2) (fun _ => ?_))
      refine WP.sb ⟨by simp, by simp, by simp; omega⟩ (WP.ckI (by omega) (WP.sb ⟨by simp; omega, by simp; omega, by simp⟩ ?_))
      have e1 : subList R none (some ((R.idxOf c : Nat) : Int)) = R.take (R.idxOf c) := by show R.take _ = _; rw [Int.toNat_natCast]
      rw [e1]
      refine WP.ck (by simp; omega) ?_
      cases hp : parseO (R.take (R.idxOf c)) with
      | none => rw [onP_none' rfl]; exact b3 _ _
      | some n =>
        rw [onP_some' rfl]
        refine b4 _ _ n (parse_i64 hp) fun he => hex ⟨n, R.drop (R.idxOf c + 1), parse_i64 hp, ?_⟩
        rw [he]; exact idx_split hlt
    · rw [if_neg hlt]
      exact WP.iteD (fun h => b1) (fun h => by omega)
/-- What reader.value makes of bytes within d lists. -/
def VRes (d : Nat) (r : List UInt8) : (Val × Reader) ⊕ Unit → Prop
  | .inl y => good d y.1 ∧ r = enc y.1 ++ y.2.rest
  | .inr _ => ∀ v a, good d v → r ≠ enc v ++ a
def body (kd : Int) (ks : List (List UInt8)) (l : List Val) : List UInt8 := if kd = 4 then encD ks l else encL l
theorem enc_body {kd : Int} (hk : kd = 3 ∨ kd = 4) (ks : List (List UInt8)) (l : List Val) : enc (.mk kd 0 [] l ks) = (if kd = 4 then 100 else 108) :: (body kd ks l ++ [101]) := by
  rcases hk with rfl | rfl <;> simp [enc, body]
def KOk (kd : Int) (ks : List (List UInt8)) (l : List Val) : Prop := (kd = 4 → ks.length = l.length ∧ incr ks = true) ∧ (kd = 3 → ks = [])
theorem wf_body {kd : Int} (hk : kd = 3 ∨ kd = 4) {ks : List (List UInt8)} {l : List Val} (h : KOk kd ks l) (hw : ∀ x ∈ l, wf x = true) : wf (.mk kd 0 [] l ks) = true := by
  have := wfL_iff.2 hw
  rcases hk with rfl | rfl
  · have := h.2 rfl; simp_all [wf]
  · have := h.1 rfl; simp_all [wf]
theorem good_list {kd : Int} (hk : kd = 3 ∨ kd = 4) {ks : List (List UInt8)} {l : List Val} {d : Nat} (hd : d < 16) (h : KOk kd ks l) (hg : ∀ x ∈ l, good (d + 1) x) : good d (.mk kd 0 [] l ks) := by
  refine ⟨wf_body hk h fun x hx => (hg x hx).1, ?_, ?_⟩
  · simp only [ints, intsL_iff]; exact ⟨⟨by omega, by omega⟩, fun x hx => (hg x hx).2.1⟩
  · have : depL l ≤ 15 - d := depL_le.2 fun x hx => by have := (hg x hx).2.2; omega
    have hn : ¬ (kd = 1 ∨ kd = 2) := by omega
    simp only [dep, hn, if_false]; omega
theorem list_good {kd n : Int} {s : List UInt8} {ks : List (List UInt8)} {l : List Val} {d : Nat} (hk : kd = 3 ∨ kd = 4) (h : good d (.mk kd n s l ks)) : n = 0 ∧ s = [] ∧ KOk kd ks l ∧ d < 16 ∧ ∀ x ∈ l, good (d + 1) x := by
  obtain ⟨h1, h2, h3⟩ := h
  simp only [ints, intsL_iff] at h2
  have hn : ¬ (kd = 1 ∨ kd = 2) := by omega
  simp only [dep, hn, if_false] at h3
  have hd : ∀ x ∈ l, dep x + (d + 1) ≤ 16 := fun x hx => by have := depL_le.1 (Nat.le_refl (depL l)) x hx; omega
  rcases hk with rfl | rfl
  · obtain ⟨rfl, rfl, rfl, w⟩ := wf3 h1
    exact ⟨rfl, rfl, ⟨fun h => by omega, fun _ => rfl⟩, by omega, fun x hx => ⟨w x hx, h2.2 x hx, hd x hx⟩⟩
  · obtain ⟨rfl, rfl, g, gi, w⟩ := wf4 h1
    exact ⟨rfl, rfl, ⟨fun _ => ⟨g, gi⟩, fun h => by omega⟩, by omega, fun x hx => ⟨w x hx, h2.2 x hx, hd x hx⟩⟩
/-- The rest of a list's bytes, where some elements are read. -/
theorem body_pre {kd : Int} (hk : kd = 3 ∨ kd = 4) {d : Nat} {K ks : List (List UInt8)} {L l : List Val} {r a r0 : List UInt8} (hr0 : r0.length ≤ 140737488355328) (hL : ∀ x ∈ L, good (d + 1) x) (hl : ∀ x ∈ l, good (d + 1) x) (hK : KOk kd K L) (hks : KOk kd ks l)
    (h1 : r0 = body kd K L ++ r) (h2 : r0 = body kd ks l ++ 101 :: a) : ∃ ks2 l2, ks = K ++ ks2 ∧ l = L ++ l2 ∧ r = body kd ks2 l2 ++ 101 :: a := by
  have hb1 : (body kd K L).length ≤ r0.length := by rw [h1]; simp
  have hb2 : (body kd ks l).length ≤ r0.length := by rw [h2]; simp
  rcases hk with rfl | rfl
  · have hK' := hK.2 rfl
    have hks' := hks.2 rfl
    subst hK'; subst hks'
    simp only [body, show ¬ (3 : Int) = 4 by decide, if_false] at *
    obtain ⟨l2, e1, e2⟩ := encL_pre (fun x hx => ⟨(hL x hx).1, rng_of (hL x hx).1 (hL x hx).2.1 (by have := encL_mem hx; omega)⟩) (fun x hx => ⟨(hl x hx).1, rng_of (hl x hx).1 (hl x hx).2.1 (by have := encL_mem hx; omega)⟩) (h1.symm.trans h2)
    exact ⟨[], l2, rfl, e1, e2⟩
  · obtain ⟨g1, _⟩ := hK.1 rfl
    obtain ⟨g2, _⟩ := hks.1 rfl
    simp only [body, if_true] at *
    exact encD_pre (fun x hx => ⟨(hL x hx).1, rng_of (hL x hx).1 (hL x hx).2.1 (by have := encD_mem (ks := K) hx; omega)⟩) (fun x hx => ⟨(hl x hx).1, rng_of (hl x hx).1 (hl x hx).2.1 (by have := encD_mem (ks := ks) hx; omega)⟩) g1 g2
      (fun q hq => by have := encD_key g1 hq; omega) (fun q hq => by have := encD_key g2 hq; omega) (h1.symm.trans h2)
theorem body_snoc3 (L : List Val) (x : Val) : body 3 [] (L ++ [x]) = body 3 [] L ++ enc x := by simp [body, encL_append, encL]
theorem body_snoc4 {K : List (List UInt8)} {L : List Val} (h : K.length = L.length) (k : List UInt8) (x : Val) : body 4 (K ++ [k]) (L ++ [x]) = body 4 K L ++ (txt k ++ enc x) := by
  simp only [body, if_true, encD_append]
  rw [encD_keys K [k] L (by omega), ← h, List.drop_left]
  simp [encD]
end Go.Proofs.YtimalbkjflfdoaaDoor

/-
  The reader of chapter 2 in plain Lean: reader.value reads exactly the encodings. Conditions: those of each theorem.
-/
set_option linter.unusedVariables false
set_option linter.unusedSimpArgs false
set_option maxRecDepth 100000
set_option maxHeartbeats 1000000
namespace Go.Proofs.YtimalbkjflfdoaaDoor
open Go.DL
theorem iteNb_neq {α ρ : Type} {Q : ρ → Prop} [BEq α] [LawfulBEq α] {x y : α} {i : Decidable ((!(x == y)) = true)} {a b : Option ρ} (h1 : ¬ x = y → WP a Q) (h2 : x = y → WP b Q) : WP (@ite _ ((!(x == y)) = true) i a b) Q := by
  by_cases h : x = y
  · rw [if_neg (by simp [h])]; exact h2 h
  · rw [if_pos (by simp [h])]; exact h1 h
/-- The elements of a list or a dictionary. -/
theorem list_loop {rc : Reader → Int → Option ((Val × Reader) ⊕ Unit)} {kd : Int} (hk : kd = 3 ∨ kd = 4) {d : Nat} (hd : d < 16) {r0 : List UInt8} (hr : r0.length ≤ 1099511627776) (hrc : ∀ q : List UInt8, q.length ≤ 1099511627776 → WP (rc ⟨q⟩ ((d : Int) + 1)) (VRes (d + 1) q)) :
    WP (loopO (g__codec_reader_value_s_l5 kd (d : Int) rc) (r0, ([] : List Val), ([] : List (List UInt8)))) (VRes d ((if kd = 4 then 100 else 108) :: r0)) := by
  -- what is read fits, or nothing fits
  have bad : ∀ (K : List (List UInt8)) (L : List Val) (r : List UInt8), r0 = body kd K L ++ r → (∀ x ∈ L, good (d + 1) x) → KOk kd K L →
      (∀ ks2 l2 a, (∀ x ∈ l2, good (d + 1) x) → KOk kd (K ++ ks2) (L ++ l2) → r ≠ body kd ks2 l2 ++ 101 :: a) → VRes d ((if kd = 4 then 100 else 108) :: r0) (.inr ()) := by
    intro K L r h1 hL hK hno v a hv he
    obtain ⟨c, q, e1, c1⟩ := enc_first hv.1
    have hk' : v.k = kd := by
      rw [e1, List.cons_append, List.cons.injEq] at he
      obtain ⟨he, _⟩ := he
      rcases hk with rfl | rfl <;> simp at he <;> subst he <;> rcases c1 with ⟨_, h⟩ | ⟨_, h, h2⟩ | ⟨h, h2⟩ | ⟨h, h2⟩
      · exact absurd h (by decide)
      · simp at h2
      · exact h
      · exact absurd h2 (by decide)
      · exact absurd h (by decide)
      · simp at h2
      · exact absurd h2 (by decide)
      · exact h
    cases v with
    | mk k n s l ks =>
      simp only [Val.k] at hk'
      subst hk'
      obtain ⟨rfl, rfl, g1, _, g2⟩ := list_good hk hv
      rw [enc_body hk, List.cons_append, List.cons.injEq] at he
      have h2 : r0 = body k ks l ++ 101 :: a := by simpa using he.2
      obtain ⟨ks2, l2, rfl, rfl, e3⟩ := body_pre hk (by omega) hL g2 hK g1 h1 h2
      exact hno ks2 l2 a (fun x hx => g2 x (List.mem_append_right _ hx)) g1 e3
  refine WP.loop (fun (p : List UInt8 × List Val × List (List UInt8)) => r0 = body kd p.2.2 p.2.1 ++ p.1 ∧ (∀ x ∈ p.2.1, good (d + 1) x) ∧ KOk kd p.2.2 p.2.1) (fun p => p.1.length) ?_ ⟨by simp [body, encL, encD], by simp, by simp [incr, KOk]⟩
  rintro ⟨r, L, K⟩ ⟨h1, hL, hK⟩
  simp only at h1 hL hK
  have hrl : r.length ≤ r0.length := by rw [h1]; simp
  have hLl : L.length ≤ r0.length := by
    rw [h1, List.length_append]
    have : L.length ≤ (body kd K L).length := by
      unfold body; split
      · exact encD_ge
      · exact encL_ge fun x hx => (hL x hx).1
    omega
  have hKl : K.length ≤ r0.length := by
    rcases hk with rfl | rfl
    · rw [hK.2 rfl]; simp
    · rw [(hK.1 rfl).1]; exact hLl
  simp only [g__codec_reader_value_s_l5]
  refine WP.iteE (fun h0 => WP.up (WP.ret ?_)) (fun h0 => ?_)
  · refine bad K L r h1 hL hK fun ks2 l2 a _ _ e => ?_
    have : r.length = 0 := by omega
    rw [e] at this; simp at this
  cases r with
  | nil => simp at h0
  | cons x r =>
    refine WP.gn (by simp) fun x' hx' => ?_
    simp at hx'; subst hx'
    refine WP.iteE (fun h101 => ?_) (fun h101 => ?_)
    · have hx : x = 101 := UInt8.toNat_inj.1 (show x.toNat = 101 by omega)
      subst hx
      refine WP.sb ⟨by simp, by simp only [Option.getD_some, Option.getD_none, List.length_cons]; omega, by simp⟩ (WP.up (WP.ret ?_))
      show VRes d _ (.inl _)
      refine ⟨good_list hk hd hK hL, ?_⟩
      show (if kd = 4 then 100 else 108) :: r0 = enc (.mk kd 0 [] L K) ++ r
      rw [enc_body hk, h1]; simp
    · have hx : ¬ x = 101 := fun e => h101 (by subst e; rfl)
      -- one more element behind K2
      have elem : ∀ (K2 : List (List UInt8)) (q : List UInt8) (pre : List UInt8), q.length < (x :: r).length → x :: r = pre ++ q → (∀ e : Val, body kd K2 (L ++ [e]) = body kd K L ++ (pre ++ enc e)) → (∀ e : Val, KOk kd K2 (L ++ [e]) ) →
          (∀ ks2 l2 a, (∀ x ∈ l2, good (d + 1) x) → KOk kd (K ++ ks2) (L ++ l2) → x :: r = body kd ks2 l2 ++ 101 :: a → ∃ e a', good (d + 1) e ∧ q = enc e ++ a') →
          WP (g__codec_reader_value_s_j6 (d : Int) rc L kd q K2) (Rnd (fun (p : List UInt8 × List Val × List (List UInt8)) => r0 = body kd p.2.2 p.2.1 ++ p.1 ∧ (∀ x ∈ p.2.1, good (d + 1) x) ∧ KOk kd p.2.2 p.2.1) (fun p => p.1.length) (x :: r).length (VRes d ((if kd = 4 then 100 else 108) :: r0))) := by
        intro K2 q pre hql hpre hbody hKOk hno
        unfold g__codec_reader_value_s_j6
        have hq2 : (x :: r).length ≤ r0.length := hrl
        obtain ⟨y, hy, hV⟩ := hrc q (by omega)
        refine WP.ckI (by omega) ?_
        cases y with
        | inl y =>
          obtain ⟨e, q'⟩ := y
          obtain ⟨he, hqe⟩ := hV
          simp only at he hqe
          refine WP.bdP hy (WP.ck (by simp; omega) (WP.ret ⟨⟨?_, ?_, ?_⟩, ?_⟩))
          · simp only
            rw [hbody e, h1, hpre, hqe]; simp
          · simp only
            intro z hz
            rcases List.mem_append.1 hz with hz | hz
            · exact hL z hz
            · simp at hz; subst hz; exact he
          · exact hKOk e
          · simp only
            have : q'.rest.length ≤ q.length := by rw [hqe]; simp
            omega
        | inr u =>
          refine WP.bdPz hy (WP.up (WP.ret ?_))
          refine bad K L (x :: r) h1 hL hK fun ks2 l2 a g1 g2 e => ?_
          obtain ⟨ev, a', hev, hq'⟩ := hno ks2 l2 a g1 g2 e
          exact hV ev a' hev hq'
      rcases hk with rfl | rfl
      · have hK0 : K = [] := hK.2 rfl
        subst hK0
        refine WP.iteE (fun h => absurd h (by decide)) (fun _ => ?_)
        have hrx : (x :: r).length ≤ r0.length := hrl
        unfold g__codec_reader_value_s_j6
        obtain ⟨y, hy, hV⟩ := hrc (x :: r) (by omega)
        refine WP.ckI (by omega) ?_
        cases y with
        | inl y =>
          obtain ⟨e, q'⟩ := y
          obtain ⟨he, hqe⟩ := hV
          simp only at he hqe
          have hpos := enc_pos he.1
          refine WP.bdP hy (WP.ck (by simp; omega) (WP.ret ⟨⟨?_, ?_, ?_⟩, ?_⟩))
          · simp only
            rw [body_snoc3, h1, hqe]; simp
          · simp only
            intro z hz
            rcases List.mem_append.1 hz with hz | hz
            · exact hL z hz
            · simp at hz; subst hz; exact he
          · exact ⟨fun h => by omega, fun _ => rfl⟩
          · simp only
            rw [hqe]; simp; omega
        | inr u =>
          refine WP.bdPz hy (WP.up (WP.ret ?_))
          refine bad [] L (x :: r) h1 hL hK fun ks2 l2 a g1 g2 e => ?_
          cases l2 with
          | nil =>
            simp [body, encL] at e
            exact hx e.1
          | cons v l2 =>
            simp only [body, show ¬ (3 : Int) = 4 by decide, if_false, encL, List.append_assoc] at e
            exact hV v _ (g1 v List.mem_cons_self) e
      · obtain ⟨hKL, hKi⟩ := hK.1 rfl
        refine WP.iteE (fun _ => ?_) (fun h => absurd rfl h)
        have hrx : (x :: r).length ≤ r0.length := hrl
        -- a dictionary's rest begins with a key
        have key : ∀ ks2 l2 a, (∀ x ∈ l2, good (d + 1) x) → KOk 4 (K ++ ks2) (L ++ l2) → x :: r = body 4 ks2 l2 ++ 101 :: a → ∃ k v a', good (d + 1) v ∧ incr (K ++ [k]) = true ∧ x :: r = txt k ++ (enc v ++ a') := by
          intro ks2 l2 a g1 g2 e
          cases l2 with
          | nil => simp [body, encD] at e; exact absurd e.1 hx
          | cons v l2 =>
            cases ks2 with
            | nil =>
              have := (g2.1 rfl).1
              simp at this; omega
            | cons k ks2 =>
              refine ⟨k, v, encD ks2 l2 ++ 101 :: a, g1 v List.mem_cons_self, ?_, by simpa [body, encD] using e⟩
              refine incr_append_one hKi fun y hy => incr_last (g2.1 rfl).2 hy
        refine WP.num (c := 58) (by rfl) (by decide) (by omega) ?_ ?_
        · intro n rest hn he
          unfold g__codec_reader_value_s_j7
          refine WP.ckI ⟨hn.1, hn.2⟩ (iteNb_neq (fun h => absurd rfl h) fun _ => ?_)
          have hrl2 : rest.length < (x :: r).length := by rw [he]; simp; omega
          refine WP.iteD (fun hneg => WP.up (WP.ret ?_)) (fun hneg => ?_)
          · refine bad K L (x :: r) h1 hL hK fun ks2 l2 a g1 g2 e => ?_
            obtain ⟨k, v, a', _, _, e2⟩ := key ks2 l2 a g1 g2 e
            rw [e2, txt_itoa] at he
            have hkl : k.length ≤ (x :: r).length := by have := txt_ge k; rw [e2]; simp; omega
            obtain ⟨h3, _⟩ := itoa_split (c := 58) (m := ((k.length : Nat) : Int)) (by decide) ⟨by omega, by omega⟩ hn (by simpa using he)
            omega
          refine WP.iteD (fun hlong => WP.up (WP.ret ?_)) (fun hlong => ?_)
          · refine bad K L (x :: r) h1 hL hK fun ks2 l2 a g1 g2 e => ?_
            obtain ⟨k, v, a', _, _, e2⟩ := key ks2 l2 a g1 g2 e
            rw [e2, txt_itoa] at he
            have hkl : k.length ≤ (x :: r).length := by have := txt_ge k; rw [e2]; simp; omega
            obtain ⟨h3, h4⟩ := itoa_split (c := 58) (m := ((k.length : Nat) : Int)) (by decide) ⟨by omega, by omega⟩ hn (by simpa using he)
            rw [← h4] at hlong
            simp at hlong; omega
          refine WP.sb ⟨by simp, by simp; omega, by simp; omega⟩ (WP.sb ⟨by simp; omega, by simp; omega, by simp⟩ ?_)
          have e1 : subList rest none (some n) = rest.take n.toNat := rfl
          have e2 : subList rest (some n) none = rest.drop n.toNat := rfl
          rw [e1, e2]
          have hkl : (rest.take n.toNat).length = n.toNat := by simp; omega
          have hpre : x :: r = txt (rest.take n.toNat) ++ rest.drop n.toNat := by
            rw [he, txt_itoa, hkl, show ((n.toNat : Nat) : Int) = n by omega]
            simp
          have uniq : ∀ k b, x :: r = txt k ++ b → k = rest.take n.toNat ∧ b = rest.drop n.toNat := by
            intro k b hb
            have : k.length ≤ (x :: r).length := by have := txt_ge k; rw [hb]; simp; omega
            exact txt_split (by omega) (by omega) (hb.symm.trans hpre)
          have hfin : (∀ y, K.getLast? = some y → Op.bytesLess y (rest.take n.toNat) = true) → WP (g__codec_reader_value_s_j9 K (rest.take n.toNat) (d : Int) rc L 4 (rest.drop n.toNat)) (Rnd (fun (p : List UInt8 × List Val × List (List UInt8)) => r0 = body 4 p.2.2 p.2.1 ++ p.1 ∧ (∀ x ∈ p.2.1, good (d + 1) x) ∧ KOk 4 p.2.2 p.2.1) (fun p => p.1.length) (x :: r).length (VRes d ((if (4 : Int) = 4 then 100 else 108) :: r0))) := by
            intro hless
            unfold g__codec_reader_value_s_j9
            refine WP.ck (by simp; omega) (elem (K ++ [rest.take n.toNat]) (rest.drop n.toNat) (txt (rest.take n.toNat)) (by rw [List.length_drop]; omega) hpre (fun e => body_snoc4 hKL _ _) (fun e => ⟨fun _ => ⟨by simp [hKL], incr_append_one hKi hless⟩, fun h => by omega⟩) ?_)
            intro ks2 l2 a g1 g2 e
            obtain ⟨k, v, a', gv, _, e3⟩ := key ks2 l2 a g1 g2 e
            obtain ⟨_, e4⟩ := uniq k _ e3
            exact ⟨v, a', gv, e4.symm⟩
          refine WP.iteD (fun hpos => ?_) (fun hpos => hfin fun y hy => ?_)
          · refine WP.ckI (by omega) (WP.gt (by omega) fun y hy => ?_)
            have hy' : K.getLast? = some y := by
              rw [List.getLast?_eq_getElem?, ← hy]; congr 1; omega
            refine WP.iteNb (WP.iteB (fun hl => hfin fun z hz => ?_) (fun hl => WP.up (WP.ret ?_)))
            · rw [hy'] at hz; cases hz; exact hl
            · refine bad K L (x :: r) h1 hL hK fun ks2 l2 a g1 g2 e => ?_
              obtain ⟨k, v, a', gv, gi, e3⟩ := key ks2 l2 a g1 g2 e
              obtain ⟨e4, _⟩ := uniq k _ e3
              rw [e4] at gi
              have := incr_last (r := []) gi hy'
              rw [this] at hl; cases hl
          · have : K = [] := List.eq_nil_of_length_eq_zero (by omega)
            subst this; simp at hy
        · intro hno
          have hb : VRes d ((if (4 : Int) = 4 then 100 else 108) :: r0) (.inr ()) := by
            refine bad K L (x :: r) h1 hL hK fun ks2 l2 a g1 g2 e => ?_
            obtain ⟨k, v, a', _, _, e2⟩ := key ks2 l2 a g1 g2 e
            rw [txt_itoa] at e2
            have hkl : k.length ≤ (x :: r).length := by rw [e2]; simp only [List.length_append, List.length_cons]; omega
            exact hno ((k.length : Nat) : Int) (k ++ (enc v ++ a')) ⟨by omega, by omega⟩ (by rw [e2]; simp)
          refine ⟨WP.up (WP.ret hb), WP.up (WP.ret hb), fun s rest => ?_, fun s rest n hn hs => ?_⟩
          · unfold g__codec_reader_value_s_j8; exact WP.up (WP.ret hb)
          · unfold g__codec_reader_value_s_j7
            exact WP.ckI ⟨hn.1, hn.2⟩ (iteNb_neq (fun _ => WP.up (WP.ret hb)) fun h => absurd h hs)
end Go.Proofs.YtimalbkjflfdoaaDoor

/-
  Decode of chapter 2 in plain Lean. Conditions: those of each theorem.
-/
set_option linter.unusedVariables false
set_option linter.unusedSimpArgs false
set_option maxRecDepth 100000
set_option maxHeartbeats 1000000
namespace Go.Proofs.YtimalbkjflfdoaaDoor
open Go.DL
theorem value_s {rc : Reader → Int → Option ((Val × Reader) ⊕ Unit)} {d : Nat} (hd : d ≤ 16) {r : List UInt8} (hr : r.length ≤ 1099511627776) (hrc : d < 16 → ∀ q : List UInt8, q.length ≤ 1099511627776 → WP (rc ⟨q⟩ ((d : Int) + 1)) (VRes (d + 1) q)) : WP (g__codec_reader_value_s rc ⟨r⟩ (d : Int)) (VRes d r) := by
  unfold g__codec_reader_value_s
  refine WP.iteE (fun h0 => WP.ret ?_) (fun h0 => ?_)
  · intro v a hv e
    have h1 := enc_pos hv.1
    simp only at h0
    have : r.length = 0 := by omega
    rw [e, List.length_append] at this
    omega
  cases r with
  | nil => simp at h0
  | cons x r =>
    refine WP.gn (by simp) fun x' hx' => ?_
    simp at hx'; subst hx'
    have hrl : (x :: r).length ≤ 1099511627776 := hr
    -- what begins with x
    have first : ∀ v a, good d v → x :: r = enc v ++ a → (v.k = 1 ∧ x = 105) ∨ (v.k = 2 ∧ 48 ≤ x.toNat ∧ x.toNat ≤ 57) ∨ (v.k = 3 ∧ x = 108) ∨ (v.k = 4 ∧ x = 100) := by
      intro v a hv e
      obtain ⟨c, q, e1, c1⟩ := enc_first hv.1
      rw [e1, List.cons_append, List.cons.injEq] at e
      rw [e.1]; exact c1
    have hj1 : ∀ b : Bool, (b = true ↔ 48 ≤ x.toNat ∧ x.toNat ≤ 57) → WP (g__codec_reader_value_s_j1 ⟨x :: r⟩ x (d : Int) rc b) (VRes d (x :: r)) := by
      intro b hb
      unfold g__codec_reader_value_s_j1
      dsimp only
      refine WP.iteB (fun h => ?_) (fun h => ?_)
      · have hdig := hb.1 h
        -- a text
        have txtv : ∀ v a, good d v → x :: r = enc v ++ a → ∃ s, s.length ≤ (x :: r).length ∧ x :: r = Lib.itoa ((s.length : Nat) : Int) ++ 58 :: (s ++ a) := by
          intro v a hv e
          have hk : v.k = 2 := by
            rcases first v a hv e with ⟨_, h⟩ | ⟨h, _⟩ | ⟨_, h⟩ | ⟨_, h⟩
            · subst h; simp at hdig
            · exact h
            · subst h; simp at hdig
            · subst h; simp at hdig
          cases v with
          | mk k n s l ks =>
            simp only [Val.k] at hk
            subst hk
            simp (config := { decide := true }) only [enc, if_true, if_false] at e
            refine ⟨s, ?_, ?_⟩
            · have := txt_ge s; rw [e, List.length_append]; omega
            · rw [e, txt_itoa]; simp
        refine WP.num (c := 58) (by rfl) (by decide) (by omega) ?_ ?_
        · intro n rest hn he
          unfold g__codec_reader_value_s_j2
          refine WP.ckI ⟨hn.1, hn.2⟩ (iteNb_neq (fun h => absurd rfl h) fun _ => ?_)
          have hrl2 : rest.length < (x :: r).length := by rw [he]; simp; omega
          have same : ∀ v a, good d v → x :: r = enc v ++ a → ∃ s : List UInt8, ((s.length : Nat) : Int) = n ∧ s ++ a = rest := by
            intro v a hv e
            obtain ⟨s, h1, h2⟩ := txtv v a hv e
            exact ⟨s, itoa_split (c := 58) (m := ((s.length : Nat) : Int)) (by decide) ⟨by omega, by omega⟩ hn (h2.symm.trans he)⟩
          refine WP.iteD (fun hneg => WP.ret fun v a hv e => ?_) (fun hneg => ?_)
          · obtain ⟨s, h1, _⟩ := same v a hv e; omega
          refine WP.iteD (fun hlong => WP.ret fun v a hv e => ?_) (fun hlong => ?_)
          · obtain ⟨s, h1, h2⟩ := same v a hv e
            have : s.length ≤ rest.length := by rw [← h2]; simp
            omega
          refine WP.sb ⟨by simp, by simp; omega, by simp; omega⟩ (WP.sb ⟨by simp; omega, by simp; omega, by simp⟩ (WP.ret ?_))
          have e1 : subList rest none (some n) = rest.take n.toNat := rfl
          have e2 : subList rest (some n) none = rest.drop n.toNat := rfl
          rw [e1, e2]
          have hkl : (rest.take n.toNat).length = n.toNat := by rw [List.length_take]; omega
          refine ⟨⟨by simp [wf], ?_, by simp [dep]; omega⟩, ?_⟩
          · simp only [ints, intsL]; exact ⟨⟨by omega, by omega⟩, trivial⟩
          · show x :: r = enc (.mk 2 0 (rest.take n.toNat) [] []) ++ rest.drop n.toNat
            simp (config := { decide := true }) only [enc, if_true, if_false]
            rw [he, txt_itoa, hkl, show ((n.toNat : Nat) : Int) = n by omega]
            simp
        · intro hno
          have hb : VRes d (x :: r) (.inr ()) := fun v a hv e => by
            obtain ⟨s, h1, h2⟩ := txtv v a hv e
            exact hno ((s.length : Nat) : Int) _ ⟨by omega, by omega⟩ h2
          refine ⟨WP.ret hb, WP.ret hb, fun s rest => WP.ret hb, fun s rest n hn hs => ?_⟩
          unfold g__codec_reader_value_s_j2
          exact WP.ckI ⟨hn.1, hn.2⟩ (iteNb_neq (fun _ => WP.ret hb) fun h => absurd h hs)
      · have hdig : ¬ (48 ≤ x.toNat ∧ x.toNat ≤ 57) := fun hh => by rw [hb.2 hh] at h; cases h
        refine WP.sb ⟨by simp, by simp only [Option.getD_some, Option.getD_none, List.length_cons]; omega, by simp⟩ ?_
        have e1 : subList (x :: r) (some 1) none = r := rfl
        simp only [e1]
        refine WP.iteE (fun h105 => ?_) (fun h105 => ?_)
        · have hx : x = 105 := UInt8.toNat_inj.1 (show x.toNat = 105 by omega)
          subst hx
          have intv : ∀ v a, good d v → (105 : UInt8) :: r = enc v ++ a → ∃ n, i64 n ∧ r = Lib.itoa n ++ 101 :: a := by
            intro v a hv e
            have hk : v.k = 1 := by
              rcases first v a hv e with ⟨h, _⟩ | ⟨_, h⟩ | ⟨_, h⟩ | ⟨_, h⟩
              · exact h
              · exact absurd h hdig
              · exact absurd h (by decide)
              · exact absurd h (by decide)
            cases v with
            | mk k n s l ks =>
              simp only [Val.k] at hk
              subst hk
              have := hv.2.1
              simp only [ints] at this
              simp (config := { decide := true }) only [enc, if_true, List.cons_append, List.cons.injEq, true_and, List.append_assoc, List.nil_append] at e
              exact ⟨n, this.1, e⟩
          have hrl1 : r.length < 1099511627776 := by simp only [List.length_cons] at hrl; omega
          refine WP.num (c := 101) (by rfl) (by decide) (by omega) ?_ ?_
          · intro n rest hn he
            unfold g__codec_reader_value_s_j10
            refine WP.ckI ⟨hn.1, hn.2⟩ (iteNb_neq (fun h => absurd rfl h) fun _ => WP.ret ?_)
            refine ⟨⟨by simp [wf], ?_, by simp [dep]; omega⟩, ?_⟩
            · simp only [ints, intsL]; exact ⟨hn, trivial⟩
            · show (105 : UInt8) :: r = enc (.mk 1 n [] [] []) ++ rest
              simp [enc, he]
          · intro hno
            have hb : VRes d (105 :: r) (.inr ()) := fun v a hv e => by
              obtain ⟨n, h1, h2⟩ := intv v a hv e
              exact hno n a h1 h2
            refine ⟨WP.ret hb, WP.ret hb, fun s rest => WP.ret hb, fun s rest n hn hs => ?_⟩
            unfold g__codec_reader_value_s_j10
            exact WP.ckI ⟨hn.1, hn.2⟩ (iteNb_neq (fun _ => WP.ret hb) fun h => absurd h hs)
        have hrl1 : r.length ≤ 1099511627776 := by simp only [List.length_cons] at hrl; omega
        have lists : ∀ (kd : Int), (kd = 3 ∨ kd = 4) → x = (if kd = 4 then 100 else 108) → WP (g__codec_reader_value_s_j4 (d : Int) rc r kd) (VRes d (x :: r)) := by
          intro kd hk hx
          unfold g__codec_reader_value_s_j4
          refine WP.iteE (fun hd16 => WP.ret fun v a hv e => ?_) (fun hd16 => ?_)
          · have hkv : v.k = 3 ∨ v.k = 4 := by
              rcases first v a hv e with ⟨_, h⟩ | ⟨_, h⟩ | ⟨h, _⟩ | ⟨h, _⟩
              · rw [h] at h105; exact absurd rfl h105
              · exact absurd h hdig
              · exact .inl h
              · exact .inr h
            cases v with
            | mk k n s l ks =>
              simp only [Val.k] at hkv
              obtain ⟨_, _, _, h, _⟩ := list_good hkv hv
              omega
          · rw [hx]
            exact list_loop hk (by omega) hrl1 (hrc (by omega))
        refine WP.iteE (fun h108 => lists 3 (.inl rfl) (UInt8.toNat_inj.1 (show x.toNat = 108 by omega))) (fun h108 => WP.iteE (fun h100 => lists 4 (.inr rfl) (UInt8.toNat_inj.1 (show x.toNat = 100 by omega))) (fun h100 => WP.ret fun v a hv e => ?_))
        rcases first v a hv e with ⟨_, h⟩ | ⟨_, h⟩ | ⟨_, h⟩ | ⟨_, h⟩
        · rw [h] at h105; exact absurd rfl h105
        · exact absurd h hdig
        · rw [h] at h108; exact absurd rfl h108
        · rw [h] at h100; exact absurd rfl h100
    refine WP.iteD (fun h => hj1 _ ?_) (fun h => hj1 false ?_)
    · rw [decide_eq_true_eq]; omega
    · constructor
      · intro h; cases h
      · intro hh; omega
theorem value_eq : ∀ (fu d : Nat), d ≤ 16 → 17 ≤ fu + d → ∀ {r : List UInt8}, r.length ≤ 1099511627776 → WP (g__codec_reader_value fu ⟨r⟩ (d : Int)) (VRes d r)
  | 0, d, h1, h2, _, _ => by omega
  | fu + 1, d, h1, h2, r, hr => value_s h1 hr fun hd q hq => value_eq fu (d + 1) (by omega) (by omega) hq
/-- What Decode answers. -/
def Dec02 (b : List UInt8) (y : Val × Int) : Prop := (good 0 y.1 ∧ enc y.1 = b ∧ y.2 = 0) ∨ ((∀ v, good 0 v → enc v ≠ b) ∧ y = (zV, 20))
theorem good_rng {d : Nat} {v : Val} {n : Nat} (h : good d v) (hl : (enc v).length ≤ n) (hn : n ≤ 140737488355328) : rng v := rng_of h.1 h.2.1 (by omega)
theorem decode_eq {b : List UInt8} (hb : b.length ≤ 1099511627776) : WP (g_codec_Decode b) fun y => ∃ p, y = .inl p ∧ Dec02 b p := by
  obtain ⟨y, hy, hV⟩ := value_eq 60 0 (by omega) (by omega) hb
  unfold g_codec_Decode
  cases y with
  | inl y =>
    obtain ⟨v, q⟩ := y
    obtain ⟨h1, h2⟩ := hV
    simp only at h1 h2
    refine WP.bdP hy (WP.iteD (fun h => WP.ret ⟨_, rfl, .inr ⟨fun w hw he => ?_, rfl⟩⟩) (fun h => WP.ret ⟨_, rfl, .inl ⟨h1, ?_, rfl⟩⟩))
    · simp only at h
      have hlen : (enc v).length ≤ b.length := by rw [h2]; simp
      have := enc_split (good_rng hw (n := b.length) (by rw [he]; omega) (by omega)) (good_rng h1 hlen (by omega)) hw.1 h1.1 (a := []) (b := q.rest) (by rw [← h2, List.append_nil]; exact he)
      rw [← this.2] at h; simp at h
    · have : q.rest = [] := List.eq_nil_of_length_eq_zero (by simp only at h; omega)
      rw [h2, this, List.append_nil]
  | inr u =>
    refine WP.bdPz hy (WP.ret ⟨_, rfl, .inr ⟨fun w hw he => hV w [] hw (by rw [List.append_nil]; exact he.symm), rfl⟩⟩)
end Go.Proofs.YtimalbkjflfdoaaDoor

/-
  The reference reader of chapter 2 in plain Lean: numbers. Conditions: those of each theorem.
-/
set_option linter.unusedVariables false
set_option linter.unusedSimpArgs false
set_option maxRecDepth 100000
set_option maxHeartbeats 1000000
namespace Go.Proofs.YtimalbkjflfdoaaDoor
open Go.DL
theorem decDigits_head : ∀ (u : Nat), 1 ≤ u → ∃ c r, Lib.decDigits u = c :: r ∧ 49 ≤ c.toNat := by
  intro u
  induction u using Nat.strongRecOn with
  | _ u ih =>
    intro hu
    by_cases h : u < 10
    · exact ⟨_, [], Lib.decDigits_one h, by rw [digit_toNat h]; omega⟩
    · obtain ⟨c, r, e, hc⟩ := ih (u / 10) (by omega) (by omega)
      rw [Lib.decDigits.eq_1 u, dif_neg h, e]
      exact ⟨c, r ++ _, rfl, hc⟩
end Go.Proofs.YtimalbkjflfdoaaDoor

/-
  The reference reader of chapter 2 in plain Lean: texts and integers. Conditions: those of each theorem.
-/
set_option linter.unusedVariables false
set_option linter.unusedSimpArgs false
set_option maxRecDepth 100000
set_option maxHeartbeats 1000000
namespace Go.Proofs.YtimalbkjflfdoaaDoor
open Go.DL
theorem dd_inj {u v : Nat} (hu : u ≤ 18446744073709551615) (hv : v ≤ 18446744073709551615) (h : Lib.decDigits u = Lib.decDigits v) : u = v := by
  have h1 := parseM_digits u hu
  rw [h, parseM_digits v hv] at h1
  injection h1 with h1
  exact h1.symm
theorem rint_rng {n : Int} (h : i64 n) : rng (.mk 1 n [] [] []) ∧ hgt (.mk 1 n [] [] []) = 1 ∧ cnt (.mk 1 n [] [] []) = 1 := by
  refine ⟨?_, by simp [hgt, hgtL], by simp [cnt, cntL]⟩
  simp only [rng, rngL]
  exact ⟨⟨by omega, by omega⟩, h, by simp, by simp, by simp, by simp, trivial⟩
end Go.Proofs.YtimalbkjflfdoaaDoor

/-
  The reference reader of chapter 2 in plain Lean: negative integers. Conditions: those of each theorem.
-/
set_option linter.unusedVariables false
set_option linter.unusedSimpArgs false
set_option maxRecDepth 100000
set_option maxHeartbeats 1000000
namespace Go.Proofs.YtimalbkjflfdoaaDoor
open Go.DL
end Go.Proofs.YtimalbkjflfdoaaDoor

/-
  The reference reader of chapter 2 in plain Lean: lists and dictionaries. Conditions: those of each theorem.
-/
set_option linter.unusedVariables false
set_option linter.unusedSimpArgs false
set_option maxRecDepth 100000
set_option maxHeartbeats 1000000
namespace Go.Proofs.YtimalbkjflfdoaaDoor
open Go.DL
theorem body_stop {kd : Int} (hk : kd = 3 ∨ kd = 4) {ks : List (List UInt8)} {l : List Val} {a r : List UInt8} (hw : ∀ x ∈ l, wf x = true) (h : 101 :: r = body kd ks l ++ 101 :: a) : l = [] ∧ r = a := by
  cases l with
  | nil =>
    rcases hk with rfl | rfl
    · simp [body, encL] at h; exact ⟨rfl, h⟩
    · simp [body, encD] at h; exact ⟨rfl, h⟩
  | cons x l =>
    exfalso
    rcases hk with rfl | rfl
    · simp only [body, show ¬ (3 : Int) = 4 by decide, if_false, encL, List.append_assoc] at h
      exact first_ne (hw x List.mem_cons_self) h.symm
    · simp only [body, if_true, encD, List.append_assoc] at h
      exact txt_ne h.symm
end Go.Proofs.YtimalbkjflfdoaaDoor

/-
  The reference reader of chapter 2 in plain Lean: its Value and its Decode. Conditions: those of each theorem.
-/
set_option linter.unusedVariables false
set_option linter.unusedSimpArgs false
set_option maxRecDepth 100000
set_option maxHeartbeats 1000000
namespace Go.Proofs.YtimalbkjflfdoaaDoor
open Go.DL
end Go.Proofs.YtimalbkjflfdoaaDoor

/-
  The codec of chapter 2 passes the law's own sanity checks. Conditions: those of each theorem.
-/
set_option linter.unusedVariables false
set_option linter.unusedSimpArgs false
set_option maxRecDepth 100000
set_option maxHeartbeats 1000000
namespace Go.Proofs.YtimalbkjflfdoaaDoor
open Go.DL
theorem dec_of {w : Val} {b : List UInt8} {p : Val × Int} (h : Dec02 b p) (hw : good 0 w) (he : enc w = b) (hl : b.length ≤ 1099511627776) : p = (w, 0) := by
  rcases h with ⟨h1, h2, h3⟩ | ⟨h1, _⟩
  · have := (enc_split (a := []) (b := []) (good_rng h1 (n := b.length) (by rw [h2]; omega) (by omega)) (good_rng hw (n := b.length) (by rw [he]; omega) (by omega)) h1.1 hw.1 (by rw [h2, he])).1
    obtain ⟨v, e⟩ := p
    simp only at this h3
    rw [this, h3]
  · exact absurd he (h1 w hw)
theorem dec_none {b : List UInt8} {p : Val × Int} (h : Dec02 b p) (hn : ∀ v, good 0 v → enc v ≠ b) : p = (zV, 20) := by
  rcases h with ⟨h1, h2, _⟩ | ⟨_, h⟩
  · exact absurd h2 (hn _ h1)
  · exact h
theorem itoa1 {n : Int} (h0 : 0 ≤ n) (h : n < 10) : Lib.itoa n = [UInt8.ofNat (48 + n.toNat)] := by
  unfold Lib.itoa; rw [if_neg (by omega), Lib.decDigits_one (by omega)]
theorem itoa_m3 : Lib.itoa (-3) = [45, 51] := by
  unfold Lib.itoa; rw [if_pos (by omega)]
  rw [show (Int.natAbs (-3)) = 3 by rfl, Lib.decDigits_one (by omega)]; rfl
theorem dd1 {n : Nat} (h : n < 10) : Lib.decDigits n = [UInt8.ofNat (48 + n)] := Lib.decDigits_one h
def vL : Val := .mk 3 0 [] [.mk 1 (-3) [] [] [], .mk 2 0 [97, 98] [] []] []
def vD : Val := .mk 4 0 [] [.mk 1 1 [] [] []] [[97]]
theorem vL_enc : enc vL = [108, 105, 45, 51, 101, 50, 58, 97, 98, 101] := by
  simp [vL, enc, encL, txt, itoa_m3, dd1]
theorem vD_enc : enc vD = [100, 49, 58, 97, 105, 49, 101, 101] := by
  have := itoa1 (n := 1) (by omega) (by omega)
  simp [vD, enc, encL, encD, txt, this, dd1]
theorem vL_good : good 0 vL := by
  refine ⟨by decide, ?_, by decide⟩
  simp [vL, ints, intsL, i64]
theorem vD_good : good 0 vD := by
  refine ⟨by decide, ?_, by decide⟩
  simp [vD, ints, intsL, i64]
theorem first1 {v : Val} {r : List UInt8} (h : good 0 v) (e : enc v = 105 :: r) : ∃ n, i64 n ∧ Lib.itoa n ++ [101] = r := by
  obtain ⟨c, q, e1, c1⟩ := enc_first h.1
  have hk : v.k = 1 := by
    rw [e1, List.cons.injEq] at e
    rcases c1 with ⟨h, _⟩ | ⟨_, h⟩ | ⟨_, h⟩ | ⟨_, h⟩
    · exact h
    · rw [e.1] at h; exact absurd h (by decide)
    · rw [e.1] at h; exact absurd h (by decide)
    · rw [e.1] at h; exact absurd h (by decide)
  cases v with
  | mk k n s l ks =>
    simp only [Val.k] at hk
    subst hk
    have h1 := h.2.1
    simp only [ints] at h1
    simp only [enc, if_true, List.cons.injEq, true_and] at e
    exact ⟨n, h1.1, e⟩
theorem no1 : ∀ v, good 0 v → enc v ≠ [105, 45, 48, 101] := by
  intro v h e
  obtain ⟨n, _, h1⟩ := first1 h e
  have h2 : Lib.itoa n = [45, 48] := List.append_cancel_right (bs := [101]) h1
  unfold Lib.itoa at h2
  split at h2
  · rw [List.cons.injEq] at h2
    have := dd_inj (u := n.natAbs) (v := 0) (by have := n.natAbs; rename_i h3 _; obtain ⟨a, b⟩ := ‹i64 n›; omega) (by omega) (by rw [h2.2, dd1 (by omega)]; rfl)
    omega
  · obtain ⟨c, r, hc, hc2⟩ := decDigits_cons n.toNat
    rw [hc, List.cons.injEq] at h2
    rw [h2.1] at hc2; exact absurd hc2 (by decide)
theorem no2 : ∀ v, good 0 v → enc v ≠ [105, 48, 51, 101] := by
  intro v h e
  obtain ⟨n, _, h1⟩ := first1 h e
  have h2 : Lib.itoa n = [48, 51] := List.append_cancel_right (bs := [101]) h1
  unfold Lib.itoa at h2
  split at h2
  · rw [List.cons.injEq] at h2; exact absurd h2.1 (by decide)
  · rcases Nat.eq_zero_or_pos n.toNat with h0 | h0
    · rw [h0, dd1 (by omega)] at h2; simp at h2
    · obtain ⟨c, r, hc, hc2⟩ := decDigits_head n.toNat h0
      rw [hc, List.cons.injEq] at h2
      rw [h2.1] at hc2; exact absurd hc2 (by decide)
theorem no3 : ∀ v, good 0 v → enc v ≠ [48, 49, 58, 97] := by
  intro v h e
  obtain ⟨c, q, e1, c1⟩ := enc_first h.1
  have hk : v.k = 2 := by
    rw [e1, List.cons.injEq] at e
    rcases c1 with ⟨_, h⟩ | ⟨h, _⟩ | ⟨_, h⟩ | ⟨_, h⟩
    · rw [e.1] at h; exact absurd h (by decide)
    · exact h
    · rw [e.1] at h; exact absurd h (by decide)
    · rw [e.1] at h; exact absurd h (by decide)
  cases v with
  | mk k n s l ks =>
    simp only [Val.k] at hk
    subst hk
    simp (config := { decide := true }) only [enc, if_true, if_false, txt] at e
    have no : ∀ u, (58 : UInt8) ∉ Lib.decDigits u := fun w hw => by have := decDigits_mem w 58 hw; exact absurd this (by decide)
    obtain ⟨h1, h2⟩ := split_at (c := 58) (a := Lib.decDigits s.length) (a' := [48, 49]) (b := s) (b' := [97]) (no _) (by decide) (by rw [e]; rfl)
    subst h2
    rw [show ([97] : List UInt8).length = 1 by rfl, dd1 (by omega)] at h1
    simp at h1
theorem no4 : ∀ v, good 0 v → enc v ≠ [100, 49, 58, 98, 105, 49, 101, 49, 58, 97, 105, 50, 101, 101] := by
  intro v h e
  obtain ⟨c, q, e1, c1⟩ := enc_first h.1
  have hk : v.k = 4 := by
    rw [e1, List.cons.injEq] at e
    rcases c1 with ⟨_, h⟩ | ⟨_, h⟩ | ⟨_, h⟩ | ⟨h, _⟩
    · rw [e.1] at h; exact absurd h (by decide)
    · rw [e.1] at h; exact absurd h (by decide)
    · rw [e.1] at h; exact absurd h (by decide)
    · exact h
  have hrg := good_rng h (n := 100) (by rw [e]; simp) (by omega)
  cases v with
  | mk k n s l ks =>
    simp only [Val.k] at hk
    subst hk
    obtain ⟨_, _, g1, g2, g3⟩ := wf4 h.1
    simp only [rng, rngL_iff] at hrg
    obtain ⟨_, _, _, _, _, r6, r7⟩ := hrg
    have i1 := itoa1 (n := 1) (by omega) (by omega)
    have i2 := itoa1 (n := 2) (by omega) (by omega)
    have eb : encD [[98], [97]] [.mk 1 1 [] [] [], .mk 1 2 [] [] []] ++ [101] = [49, 58, 98, 105, 49, 101, 49, 58, 97, 105, 50, 101, 101] := by
      simp [enc, encD, txt, i1, i2, dd1]
    simp (config := { decide := true }) only [enc, if_true, if_false, List.cons.injEq, true_and] at e
    rw [← eb] at e
    obtain ⟨ks2, l2, e2, e3, e4⟩ := encD_pre (K := [[98], [97]]) (L := [.mk 1 1 [] [] [], .mk 1 2 [] [] []]) (ks := ks) (l := l) (r := [101]) (a := [])
      (fun x hx => by
        simp only [List.mem_cons, List.not_mem_nil, or_false] at hx
        rcases hx with rfl | rfl
        · exact ⟨by decide, (rint_rng ⟨by omega, by omega⟩).1⟩
        · exact ⟨by decide, (rint_rng ⟨by omega, by omega⟩).1⟩)
      (fun x hx => ⟨g3 x hx, r7 x hx⟩) rfl g1 (by simp) r6 e.symm
    have hl2 : l2 = [] ∧ _ := body_stop (kd := 4) (.inr rfl) (ks := ks2) (l := l2) (a := []) (r := []) (fun x hx => g3 x (by rw [e3]; exact List.mem_append_right _ hx)) (by simpa [body] using e4)
    have hks2 : ks2 = [] := by
      have := congrArg List.length e2
      have h3 := congrArg List.length e3
      rw [hl2.1] at h3
      simp at this h3
      exact List.eq_nil_of_length_eq_zero (by omega)
    rw [e2, hks2] at g2
    exact absurd g2 (by decide)
theorem no5 : ∀ v, good 0 v → enc v ≠ [105, 51, 101, 32] := by
  intro v h e
  have i3 := itoa1 (n := 3) (by omega) (by omega)
  have e3 : enc (.mk 1 3 [] [] []) = [105, 51, 101] := by simp [enc, i3]
  have := enc_split (v := v) (w := .mk 1 3 [] [] []) (a := []) (b := [32]) (good_rng h (n := 100) (by rw [e]; simp) (by omega)) (rint_rng ⟨by omega, by omega⟩).1 h.1 (by decide) (by rw [e, e3]; rfl)
  exact absurd this.2 (by simp)
theorem no6 : ∀ v, good 0 v → enc v ≠ [] := by
  intro v h e
  have := enc_pos h.1
  rw [e] at this; simp at this
end Go.Proofs.YtimalbkjflfdoaaDoor

/-
  The laws of chapter 2 in plain Lean: sane, and the laws on Encode, Decode, Same and Get. Conditions: those of each theorem.
-/
set_option linter.unusedVariables false
set_option linter.unusedSimpArgs false
set_option maxRecDepth 100000
set_option maxHeartbeats 1000000
namespace Go.Proofs.YtimalbkjflfdoaaDoor
open Go.DL
theorem WP.bdPW {α ρ : Type} {Q : ρ → Prop} {o : Option (α ⊕ Unit)} {k : α → Option ρ} {z : Option ρ} (h : WP o fun y => ∃ x, y = .inl x ∧ WP (k x) Q) : WP (Go.DL.bdP o k z) Q := by
  obtain ⟨y, h1, x, rfl, h2⟩ := h
  rw [h1]; exact h2
theorem zV_ok : Ok zV := by
  refine ⟨?_, by decide, by decide⟩
  simp [zV, rng, rngL, i64]
theorem chk_zV : chk zV = 1 := by
  unfold chk; rw [if_neg (by decide)]
theorem same_then {a b : Val} (h : Ok a) {ρ : Type} {Q : ρ → Prop} {k : Bool → Option ρ} (h1 : a = b → WP (k true) Q) (h2 : ¬ a = b → WP (k false) Q) : WP (Go.DL.bd (g_codec_Same 60 a b) k) Q := by
  refine WP.bdW ((same_eq 60 a b h.2.1 h.1).mono fun y hy => ?_)
  cases y with
  | true => exact h1 (hy.1 rfl)
  | false => exact h2 fun e => by have := hy.2 e; cases this
theorem get_t {v : Val} {key : List UInt8} (h : Ok v) : g_codec_Get v key = some (getV v key) := by
  have h1 := h.1
  cases v with
  | mk k n s l ks => simp only [rng] at h1; exact get_eq h1.2.2.2.2.1 h1.2.2.2.1
theorem sm_ok {v : Val} (h : Sm v) : Ok v := ⟨h.2.2, by have := h.2.1; omega, by have := h.1; omega⟩
theorem sane_eq : g_law02_sane = some (.inl true) := by
  refine WP.eq ?_
  unfold g_law02_sane
  have hL : good 0 vL := vL_good
  have hLo : Ok vL := good_ok hL (by rw [vL_enc]; simp)
  have hDo : Ok vD := good_ok vD_good (by rw [vD_enc]; simp)
  refine WP.bd (r := .mk 1 (-3) [] [] []) rfl (WP.bd (r := .mk 2 0 [97, 98] [] []) rfl (WP.bd (r := vL) rfl (WP.bdP (Encode_eq hLo) ?_)))
  have hc : chk vL = 0 := chk0.2 ⟨hL.1, by have := hL.2.2; omega⟩
  have he : encR vL = ([108, 105, 45, 51, 101, 50, 58, 97, 98, 101], 0) := by unfold encR; rw [if_pos hc, vL_enc]
  rw [he]
  refine WP.bdPW ((decode_eq (by simp)).mono fun y ⟨p, h1, h2⟩ => ⟨p, h1, ?_⟩)
  have hp := dec_of h2 vD_good vD_enc (by simp)
  subst hp
  refine WP.bd (get_t hDo) (WP.bd (get_t hDo) ?_)
  have g1 : getV vD [97] = (.mk 1 1 [] [] [], true) := by simp [getV, vD, Val.k, Val.l, Val.ks]
  have g2 : getV vD [98] = (zV, false) := by
    have : List.idxOf ([98] : List UInt8) [[97]] = 1 := by decide
    simp [getV, vD, Val.k, Val.l, Val.ks, this]
  rw [g1, g2]
  refine WP.iteN (fun h => absurd rfl h) (fun _ => ?_)
  dsimp only
  rw [show (([108, 105, 45, 51, 101, 50, 58, 97, 98, 101] : List UInt8) == [108, 105, 45, 51, 101, 50, 58, 97, 98, 101]) = true by decide]
  refine WP.iteNb (WP.iteT (WP.iteN (fun h => absurd rfl h) (fun _ => WP.iteNb (WP.iteT (WP.iteF (WP.iteN (fun h => absurd rfl h) (fun _ => WP.iteN (fun h => absurd rfl h) (fun _ => same_then hDo (fun _ => ?_) (fun h => absurd rfl h)))))))))
  refine WP.iteNb (WP.iteT (same_then hDo (fun h => ?_) (fun _ => ?_)))
  · unfold vD at h; injection h with h; exact absurd h (by decide)
  unfold g_law02_sane_j1
  refine WP.iteF (WP.loop (fun i => i ≤ 6) (fun i => 6 - i) ?_ (by omega))
  intro i hi
  unfold g_law02_sane_l3
  dsimp only
  refine WP.iteD (fun hlt => ?_) (fun hlt => ?_)
  · have hlt' : i < 6 := by
      have : ((i : Nat) : Int) < 6 := by simpa using hlt
      omega
    refine WP.gn (by simpa using hlt') fun x hx => ?_
    have hxx : x.length ≤ 20 ∧ ∀ v, good 0 v → enc v ≠ x := by
      have hm := List.mem_of_getElem? hx
      simp only [List.mem_cons, List.not_mem_nil, or_false] at hm
      rcases hm with rfl | rfl | rfl | rfl | rfl | rfl
      · exact ⟨by simp, no1⟩
      · exact ⟨by simp, no2⟩
      · exact ⟨by simp, no3⟩
      · exact ⟨by simp, no4⟩
      · exact ⟨by simp, no5⟩
      · exact ⟨by simp, no6⟩
    refine WP.ck (by omega) (WP.bdPW ((decode_eq (by omega)).mono fun y ⟨p, h1, h2⟩ => ⟨p, h1, ?_⟩))
    rw [dec_none h2 hxx.2]
    refine WP.iteN (fun h => absurd rfl h) (fun _ => WP.ckI (by omega) (WP.ret ⟨by show i + 1 ≤ 6; omega, by show 6 - (i + 1) < 6 - i; omega⟩))
  · unfold g_law02_sane_j2
    refine WP.up (WP.bd (check_eq (v := zV) zV_ok.2.1 zV_ok.1) (WP.ret ?_))
    rw [chk_zV]; rfl
/-- few, with what follows. -/
theorem few_then {l : List Val} (hr : ∀ x ∈ l, rng x) (hl : l.length ≤ 140737488355328) {ρ : Type} {Q : ρ → Prop} {k : Bool → Option ρ} (h1 : WP (k false) Q) (h2 : (∀ x ∈ l, Sm x) → WP (k true) Q) : WP (Go.DL.bd (g_law02_few l) k) Q := by
  refine WP.bdW ((few_eq hr hl).mono fun b hb => ?_)
  cases b with
  | true => exact h2 (hb rfl)
  | false => exact h1
end Go.Proofs.YtimalbkjflfdoaaDoor

/-
  The laws of chapter 2 in plain Lean: RoundTrip, Different, Lists. Conditions: those of each theorem.
-/
set_option linter.unusedVariables false
set_option linter.unusedSimpArgs false
set_option maxRecDepth 100000
set_option maxHeartbeats 1000000
namespace Go.Proofs.YtimalbkjflfdoaaDoor
open Go.DL
theorem good_of {v : Val} (h : rng v) (hc : chk v = 0) : good 0 v := by
  obtain ⟨h1, h2⟩ := chk0.1 hc
  exact ⟨h1, ints_rng h, by omega⟩
theorem encR_two (v : Val) : (encR v).2 = chk v := by
  unfold encR; split
  · rename_i h; exact h.symm
  · rfl
theorem encR_one {v : Val} (h : chk v = 0) : encR v = (enc v, 0) := by unfold encR; rw [if_pos h]
theorem sm_len {v : Val} (h : Sm v) (hc : chk v = 0) : (enc v).length ≤ 60000 := by
  have := enc_len h.2.2 (chk0.1 hc).1
  have := h.1; omega
theorem law_Lists {l : List Val} (hl : ∀ x ∈ l, rng x) (hn : l.length ≤ 140737488355328) : g_law02_CodecLists l = some (.inl true) := by
  refine WP.eq ?_
  unfold g_law02_CodecLists
  have skip : WP (g_law02_CodecLists_j1 l true) fun x => x = .inl true := by
    unfold g_law02_CodecLists_j1
    exact WP.iteT (WP.ret rfl)
  refine WP.bdP sane_eq (WP.iteNb (WP.iteT (few_then hl hn (WP.iteNb (WP.iteF skip)) fun hs => WP.iteNb (WP.iteT ?_))))
  cases hk : decide (((l.length : Nat) : Int) > 20) with
  | true => exact skip
  | false =>
    have hl20 : l.length ≤ 20 := by have := of_decide_eq_false hk; omega
    have hcnt : ∀ m : List Val, (∀ x ∈ m, Sm x) → cntL m ≤ 200 * m.length := by
      intro m
      induction m with
      | nil => simp [cntL]
      | cons a m ih =>
        intro h
        have h1 := ih fun x hx => h x (List.mem_cons_of_mem _ hx)
        have h2 := (h a List.mem_cons_self).1
        simp only [cntL, List.length_cons]; omega
    have hc := hcnt l hs
    have hov : Ok (.mk 3 0 [] l []) := by
      refine ⟨?_, ?_, ?_⟩
      · simp only [rng, rngL_iff]
        exact ⟨⟨by omega, by omega⟩, ⟨by omega, by omega⟩, by simp, hn, by simp, by simp, hl⟩
      · simp only [hgt]
        have : hgtL l ≤ 22 := hgtL_le.2 fun x hx => (hs x hx).2.1
        omega
      · simp only [cnt, List.length_nil, List.map_nil, List.sum_nil]; omega
    unfold g_law02_CodecLists_j1
    refine WP.iteF (WP.loop (fun (p : Nat × List UInt8) => p.1 ≤ l.length ∧ p.2 = 108 :: encL (l.take p.1) ∧ ∀ x ∈ l.take p.1, chk x = 0) (fun p => l.length - p.1) ?_ ⟨by simp, by simp [encL], by simp⟩)
    rintro ⟨i, acc⟩ ⟨g1, g2, g3⟩
    simp only at g1 g2 g3
    unfold g_law02_CodecLists_l3
    dsimp only
    refine WP.iteD (fun hi => ?_) (fun hi => ?_)
    · refine WP.gn (by omega) fun x hx => ?_
      have hxm := List.mem_of_getElem? hx
      have hsx := hs x hxm
      refine WP.bdP (Encode_eq (sm_ok hsx)) (WP.iteN (fun hne => ?_) (fun h0 => ?_))
      · rw [encR_two] at hne
        refine WP.bd (r := .mk 3 0 [] l []) rfl (WP.bdP (Encode_eq hov) (WP.up (WP.ret ?_)))
        rw [encR_two]
        have : chk (.mk 3 0 [] l []) ≠ 0 := by
          intro h
          obtain ⟨h1, h2⟩ := chk0.1 h
          obtain ⟨_, _, _, w⟩ := wf3 h1
          simp (config := { decide := true }) only [dep, if_false] at h2
          have := depL_le.1 (Nat.le_refl (depL l)) x hxm
          exact hne (chk0.2 ⟨w x hxm, by omega⟩)
        show (Sum.inl (chk (.mk 3 0 [] l []) != 0) : Bool ⊕ Unit) = .inl true
        rw [bne_iff_ne.2 this]
      · rw [encR_two] at h0
        rw [encR_one h0]
        have hlx := sm_len hsx h0
        have hacc : (encL (l.take i)).length ≤ 300 * cntL (l.take i) := encL_len _ fun y hy => enc_len (hl y (List.mem_of_mem_take hy)) (chk0.1 (g3 y hy)).1
        have := cntL_take_le l i
        refine WP.ck (by rw [g2]; simp only [List.length_cons]; omega) (WP.ckI (by omega) (WP.ret ⟨⟨by simp only; omega, ?_, ?_⟩, by simp only; omega⟩))
        · simp only
          rw [g2, encL_take hx]; simp
        · intro y hy
          rw [List.take_add_one, hx] at hy
          rcases List.mem_append.1 hy with hy | hy
          · exact g3 y hy
          · simp at hy; subst hy; exact h0
    · have e : i = l.length := by omega
      rw [e, List.take_length] at g2 g3
      unfold g_law02_CodecLists_j2
      refine WP.up (WP.bd (r := .mk 3 0 [] l []) rfl (WP.bdP (Encode_eq hov) (WP.iteN (fun hne => WP.ret ?_) (fun h0 => ?_))))
      · rw [encR_two] at hne ⊢
        have hw : wf (.mk 3 0 [] l []) = true := by
          have := wfL_iff.2 fun x hx => (chk0.1 (g3 x hx)).1
          simp [wf, this]
        have : chk (.mk 3 0 [] l []) = 2 := by
          unfold chk at hne ⊢
          rw [if_pos hw] at hne ⊢
          split
          · rfl
          · rename_i h; rw [if_neg h] at hne; exact absurd rfl hne
        rw [this]; rfl
      · rw [encR_two] at h0
        rw [encR_one h0]
        have hacc : (encL l).length ≤ 300 * cntL l := encL_len _ fun y hy => enc_len (hl y hy) (chk0.1 (g3 y hy)).1
        refine WP.ck (by rw [g2]; simp only [List.length_cons, List.length_nil]; omega) (WP.ret ?_)
        have : enc (.mk 3 0 [] l []) = acc ++ [101] := by rw [g2]; simp [enc]
        show (Sum.inl (enc (.mk 3 0 [] l []) == acc ++ [101]) : Bool ⊕ Unit) = .inl true
        rw [this, beq_self_eq_true]
end Go.Proofs.YtimalbkjflfdoaaDoor
