/-
  Texts that belong together, one behind the other; what each of them proves, and under which conditions, its own heading says.
-/
import Derived.Test.YtimalbkjflfdoaaDoorRows
import Derived.Test.YtimalbkjflfdoaaDoorCc
set_option linter.unusedVariables false
set_option linter.unusedSimpArgs false
namespace Go.Proofs.YtimalbkjflfdoaaDoor
open Go.DL
set_option maxRecDepth 100000
set_option maxHeartbeats 4000000
theorem g__codec_reader_value_s_ret {rc : (Reader) → (Int) → Option ((Val × Reader) ⊕ Unit)} (hrc : ∀ {r_1 : Reader} {depth_2 : Int} {r : (Val × Reader) ⊕ Unit}, rc r_1 depth_2 = some r → CT Tryd.prog 32 4 [(rf 3 0), (di depth_2)] [(0, gB0), (1, gB1), (2, gB2), (3, (.var [(.dat (.sl 1 (r_1.rest.map elB)))]))] (CoR 3 ghosts (fun x => ((.agg (qVal x.1)), [(0, gB0), (1, gB1), (2, gB2), (3, (.var [(.dat (.sl 1 (x.2.rest.map elB)))]))])) (.iface 29 (.int .i64 20)) r)) {r_1 : Reader} {depth_2 : Int} {r : (Val × Reader) ⊕ Unit} (h : g__codec_reader_value_s rc r_1 depth_2 = some r) : CT Tryd.prog 32 4 [(rf 3 0), (di depth_2)] [(0, gB0), (1, gB1), (2, gB2), (3, (.var [(.dat (.sl 1 (r_1.rest.map elB)))]))] (CoR 3 ghosts (fun x => ((.agg (qVal x.1)), [(0, gB0), (1, gB1), (2, gB2), (3, (.var [(.dat (.sl 1 (x.2.rest.map elB)))]))])) (.iface 29 (.int .i64 20)) r) := by
  refine CT.of_T Tryd.func32 (by kernel_rfl) rfl ?_
  refine T_turn [] [0, 1] [] (mk 118 [(0, (rf 3 0)), (1, (di depth_2))] [(0, gB0), (1, gB1), (2, gB2), (3, (.var [(.dat (.sl 1 (r_1.rest.map elB)))]))]) (by kernel_rfl) ?_
  refine T_reg [] [0, 1, 4] [] (mk 118 [(0, (rf 3 0)), (1, (di depth_2)), (4, (rf 8 0))] [(8, (.var [(.dat (I 0)), (.dat (I 0)), (.dat (.str ([] : List UInt8))), (.dat nilS), (.dat nilS)])), (0, gB0), (1, gB1), (2, gB2), (3, (.var [(.dat (.sl 1 (r_1.rest.map elB)))]))]) _ (by kernel_rfl) (z2 zt) ?_
  refine T_seq (T_parts ?_)
  refine TL_part 7 (hl 6 [(5, (zd (I ((r_1.rest.length : Nat) : Int))))]) (mk 118 [(0, (rf 3 0)), (1, (di depth_2)), (4, (rf 8 0)), (7, (rf 3 0)), (8, (rf 3 0)), (9, (rf 3 0)), (10, (rf 3 0)), (11, (dt (.sl 1 (r_1.rest.map elB)))), (12, (di ((r_1.rest.length : Nat) : Int))), (13, (db (((r_1.rest.length : Nat) : Int) == 0)))] [(8, (.var [(.dat (I 0)), (.dat (I 0)), (.dat (.str ([] : List UInt8))), (.dat nilS), (.dat nilS)])), (0, gB0), (1, gB1), (2, gB2), (3, (.var [(.dat (.sl 1 (r_1.rest.map elB)))]))]) _ (by kernel_rfl) (z8 (z3 (zc (len_s elB r_1.rest) (z2 zt)))) rfl ?_
  refine TL_inlineP 122 33 [] Tryd.f33 _ rfl rfl (by kernel_rfl) Tryd.func33 rfl rfl (by decide) ?_
  refine T_turn [] [0, 1] [] (mk 6 [(0, (rf 3 0)), (1, (db (((r_1.rest.length : Nat) : Int) == 0)))] [(8, (.var [(.dat (I 0)), (.dat (I 0)), (.dat (.str ([] : List UInt8))), (.dat nilS), (.dat nilS)])), (0, gB0), (1, gB1), (2, gB2), (3, (.var [(.dat (.sl 1 (r_1.rest.map elB)))]))]) (by kernel_rfl) ?_
  refine T_reg [] [4] [] (mk 6 [(4, (db (((r_1.rest.length : Nat) : Int) == 0)))] [(8, (.var [(.dat (I 0)), (.dat (I 0)), (.dat (.str ([] : List UInt8))), (.dat nilS), (.dat nilS)])), (0, gB0), (1, gB1), (2, gB2), (3, (.var [(.dat (.sl 1 (r_1.rest.map elB)))]))]) _ (by kernel_rfl) (z2 zt) ?_
  refine T_cond (((r_1.rest.length : Nat) : Int) == 0) (by kernel_rfl) (fun b3 => ?_) (fun b3 => ?_)
  replace h := ite_t b3 h
  refine T_parts ?_
  refine TL_part 1 [] (mk 6 [(4, (db (((r_1.rest.length : Nat) : Int) == 0))), (5, (dt (.iface 29 (I 20))))] [(8, (.var [(.dat (I 0)), (.dat (I 0)), (.dat (.str ([] : List UInt8))), (.dat nilS), (.dat nilS)])), (0, gB0), (1, gB1), (2, gB2), (3, (.var [(.dat (.sl 1 (r_1.rest.map elB)))]))]) _ (by kernel_rfl) (z2 zt) rfl ?_
  refine TL_panic 29 (I 20) rfl rfl (by kernel_rfl) ?_
  obtain rfl := some_inv h
  exact (show _ ∧ _ from ⟨rfl, (show _ ∧ _ from ⟨rfl, ⟨_, rfl, lk3 (by kernel_rfl) (by kernel_rfl) (by kernel_rfl)⟩⟩)⟩)
  replace h := ite_f b3 h
  refine T_skip ?_
  refine ⟨[], by kernel_rfl, ?_⟩
  refine TL_turn [] [0, 1, 4, 14] [] (mk 118 [(0, (rf 3 0)), (1, (di depth_2)), (4, (rf 8 0)), (14, (.tup []))] [(8, (.var [(.dat (I 0)), (.dat (I 0)), (.dat (.str ([] : List UInt8))), (.dat nilS), (.dat nilS)])), (0, gB0), (1, gB1), (2, gB2), (3, (.var [(.dat (.sl 1 (r_1.rest.map elB)))]))]) (by kernel_rfl) ?_
  refine TL_nilQ ?_
  refine T_turn [] [0, 1, 4] [] (mk 118 [(0, (rf 3 0)), (1, (di depth_2)), (4, (rf 8 0))] [(8, (.var [(.dat (I 0)), (.dat (I 0)), (.dat (.str ([] : List UInt8))), (.dat nilS), (.dat nilS)])), (0, gB0), (1, gB1), (2, gB2), (3, (.var [(.dat (.sl 1 (r_1.rest.map elB)))]))]) (by kernel_rfl) ?_
  obtain ⟨x_4, e5, e6, e7, h⟩ := gn_inv elB h
  refine T_reg (hl 5 [(4, (zd (.int .u8 ((x_4.toNat : Nat) : Int))))]) [0, 1, 4, 5] [] (mk 118 [(0, (rf 3 0)), (1, (di depth_2)), (4, (rf 8 0)), (5, (dt (.int .u8 ((x_4.toNat : Nat) : Int))))] [(8, (.var [(.dat (I 0)), (.dat (I 0)), (.dat (.str ([] : List UInt8))), (.dat nilS), (.dat nilS)])), (0, gB0), (1, gB1), (2, gB2), (3, (.var [(.dat (.sl 1 (r_1.rest.map elB)))]))]) _ (by kernel_rfl) (z8 (z1 (zc e5 (z4 zt)))) ?_
  refine T_seq ?_
  refine T_seqJ (α := Bool) (fun (v_8 : Bool) => (mk 118 [(0, (rf 3 0)), (1, (di depth_2)), (4, (rf 8 0)), (5, (dt (.int .u8 ((x_4.toNat : Nat) : Int)))), (26, (db (v_8)))] [(0, gB0), (1, gB1), (2, gB2), (3, (.var [(.dat (.sl 1 (r_1.rest.map elB)))])), (8, (.var [(.dat (I 0)), (.dat (I 0)), (.dat (.str ([] : List UInt8))), (.dat nilS), (.dat nilS)]))])) (fun (v_8 : Bool) => g__codec_reader_value_s_j1 r_1 x_4 depth_2 rc v_8 = some r) (fun v_8 h => ?_) ?_
  refine T_cond (v_8) (by kernel_rfl) (fun b9 => ?_) (fun b9 => ?_)
  replace h := ite_t b9 h
  refine T_seq (T_parts ?_)
  refine TL_part 1 [] (mk 118 [(0, (rf 3 0)), (1, (di depth_2)), (4, (rf 8 0)), (5, (dt (.int .u8 ((x_4.toNat : Nat) : Int)))), (26, (db (v_8))), (27, (rf 3 0))] [(0, gB0), (1, gB1), (2, gB2), (3, (.var [(.dat (.sl 1 (r_1.rest.map elB)))])), (8, (.var [(.dat (I 0)), (.dat (I 0)), (.dat (.str ([] : List UInt8))), (.dat nilS), (.dat nilS)]))]) _ (by kernel_rfl) (z2 zt) rfl ?_
  refine TL_inlineP 122 49 [] Tryd.f49 _ rfl rfl (by kernel_rfl) Tryd.func49 rfl rfl (by decide) ?_
  refine T_turn [] [0] [] (mk 38 [(0, (rf 3 0))] [(0, gB0), (1, gB1), (2, gB2), (3, (.var [(.dat (.sl 1 (r_1.rest.map elB)))])), (8, (.var [(.dat (I 0)), (.dat (I 0)), (.dat (.str ([] : List UInt8))), (.dat nilS), (.dat nilS)]))]) (by kernel_rfl) ?_
  refine T_reg [] [0] [] (mk 38 [(0, (rf 3 0))] [(0, gB0), (1, gB1), (2, gB2), (3, (.var [(.dat (.sl 1 (r_1.rest.map elB)))])), (8, (.var [(.dat (I 0)), (.dat (I 0)), (.dat (.str ([] : List UInt8))), (.dat nilS), (.dat nilS)]))]) _ (by kernel_rfl) (z2 zt) ?_
  refine T_seq (T_parts ?_)
  refine TL_part 1 [] (mk 38 [(0, (rf 3 0)), (5, (rf 3 0))] [(0, gB0), (1, gB1), (2, gB2), (3, (.var [(.dat (.sl 1 (r_1.rest.map elB)))])), (8, (.var [(.dat (I 0)), (.dat (I 0)), (.dat (.str ([] : List UInt8))), (.dat nilS), (.dat nilS)]))]) _ (by kernel_rfl) (z2 zt) rfl ?_
  refine TL_inlineP 160 50 [] Tryd.f50 _ rfl rfl (by kernel_rfl) Tryd.func50 rfl rfl (by decide) ?_
  refine T_turn [] [0, 1] [] (mk 27 [(0, (rf 3 0)), (1, (dt (.int .u8 58)))] [(0, gB0), (1, gB1), (2, gB2), (3, (.var [(.dat (.sl 1 (r_1.rest.map elB)))])), (8, (.var [(.dat (I 0)), (.dat (I 0)), (.dat (.str ([] : List UInt8))), (.dat nilS), (.dat nilS)]))]) (by kernel_rfl) ?_
  refine T_reg [] [0, 1] [] (mk 27 [(0, (rf 3 0)), (1, (dt (.int .u8 58)))] [(0, gB0), (1, gB1), (2, gB2), (3, (.var [(.dat (.sl 1 (r_1.rest.map elB)))])), (8, (.var [(.dat (I 0)), (.dat (I 0)), (.dat (.str ([] : List UInt8))), (.dat nilS), (.dat nilS)]))]) _ (by kernel_rfl) (z2 zt) ?_
  refine T_seq (T_parts ?_)
  refine TL_part 2 [] (mk 27 [(0, (rf 3 0)), (1, (dt (.int .u8 58))), (8, (rf 3 0)), (9, (dt (.int .u8 58)))] [(0, gB0), (1, gB1), (2, gB2), (3, (.var [(.dat (.sl 1 (r_1.rest.map elB)))])), (8, (.var [(.dat (I 0)), (.dat (I 0)), (.dat (.str ([] : List UInt8))), (.dat nilS), (.dat nilS)]))]) _ (by kernel_rfl) (z4 zt) rfl ?_
  refine TL_inlineP 187 56 [] Tryd.f56 _ rfl rfl (by kernel_rfl) Tryd.func56 rfl rfl (by decide) ?_
  refine T_turn [] [0, 1] [] (mk 40 [(0, (rf 3 0)), (1, (dt (.int .u8 58)))] [(0, gB0), (1, gB1), (2, gB2), (3, (.var [(.dat (.sl 1 (r_1.rest.map elB)))])), (8, (.var [(.dat (I 0)), (.dat (I 0)), (.dat (.str ([] : List UInt8))), (.dat nilS), (.dat nilS)]))]) (by kernel_rfl) ?_
  refine T_reg [] [0, 1] [] (mk 40 [(0, (rf 3 0)), (1, (dt (.int .u8 58)))] [(0, gB0), (1, gB1), (2, gB2), (3, (.var [(.dat (.sl 1 (r_1.rest.map elB)))])), (8, (.var [(.dat (I 0)), (.dat (I 0)), (.dat (.str ([] : List UInt8))), (.dat nilS), (.dat nilS)]))]) _ (by kernel_rfl) (z2 zt) ?_
  obtain ⟨r_10, e11, h⟩ := bd_inv h
  refine T_reg (hl 6 [(5, (zd (I r_10)))]) [0, 5] [] (mk 40 [(0, (rf 3 0)), (5, (di r_10))] [(0, gB0), (1, gB1), (2, gB2), (3, (.var [(.dat (.sl 1 (r_1.rest.map elB)))])), (8, (.var [(.dat (I 0)), (.dat (I 0)), (.dat (.str ([] : List UInt8))), (.dat nilS), (.dat nilS)]))]) _ (by kernel_rfl) (z8 (z3 (zc (g_slices_Index_Lbyte_byte_ret e11) (z2 zt)))) ?_
  rcases Bool.eq_false_or_eq_true (decide (r_10 < 0)) with b12 | b12
  replace h := ite_t b12 h
  refine T_seq (T_parts ?_)
  refine TL_part 7 [zn, zn, zn, zn, zg, zg, (zd (B true))] (mk 40 [(0, (rf 3 0)), (5, (di r_10)), (13, (rf 3 0)), (14, (di r_10)), (15, (db (decide (r_10 < 0)))), (16, (db (decide (r_10 < 0)))), (17, (dt (.tup []))), (18, (dt (.tup []))), (19, (db true))] [(0, gB0), (1, gB1), (2, gB2), (3, (.var [(.dat (.sl 1 (r_1.rest.map elB)))])), (8, (.var [(.dat (I 0)), (.dat (I 0)), (.dat (.str ([] : List UInt8))), (.dat nilS), (.dat nilS)]))]) _ (by kernel_rfl) (z8 (zc (gd_tf b12) (zc (gd_tf b12) (z1 (zc b12 zt))))) rfl ?_
  refine TL_inlineP 227 33 [] Tryd.f33 _ rfl rfl (by kernel_rfl) Tryd.func33 rfl rfl (by decide) ?_
  refine T_turn [] [0, 1] [] (mk 6 [(0, (rf 3 0)), (1, (db true))] [(0, gB0), (1, gB1), (2, gB2), (3, (.var [(.dat (.sl 1 (r_1.rest.map elB)))])), (8, (.var [(.dat (I 0)), (.dat (I 0)), (.dat (.str ([] : List UInt8))), (.dat nilS), (.dat nilS)]))]) (by kernel_rfl) ?_
  refine T_reg [] [4] [] (mk 6 [(4, (db true))] [(0, gB0), (1, gB1), (2, gB2), (3, (.var [(.dat (.sl 1 (r_1.rest.map elB)))])), (8, (.var [(.dat (I 0)), (.dat (I 0)), (.dat (.str ([] : List UInt8))), (.dat nilS), (.dat nilS)]))]) _ (by kernel_rfl) (z2 zt) ?_
  refine T_cond true (by kernel_rfl) (fun _ => ?_) (fun h => absurd (h.symm.trans (rfl : true = true)) (by decide))
  refine T_parts ?_
  refine TL_part 1 [] (mk 6 [(4, (db true)), (5, (dt (.iface 29 (I 20))))] [(0, gB0), (1, gB1), (2, gB2), (3, (.var [(.dat (.sl 1 (r_1.rest.map elB)))])), (8, (.var [(.dat (I 0)), (.dat (I 0)), (.dat (.str ([] : List UInt8))), (.dat nilS), (.dat nilS)]))]) _ (by kernel_rfl) (z2 zt) rfl ?_
  refine TL_panic 29 (I 20) rfl rfl (by kernel_rfl) ?_
  obtain rfl := some_inv h
  exact (show _ ∧ _ from ⟨rfl, (show _ ∧ _ from ⟨rfl, (show _ ∧ _ from ⟨rfl, (show _ ∧ _ from ⟨rfl, (show _ ∧ _ from ⟨rfl, ⟨_, rfl, lk3 (by kernel_rfl) (by kernel_rfl) (by kernel_rfl)⟩⟩)⟩)⟩)⟩)⟩)
  replace h := ite_f b12 h
  refine T_seq (T_parts ?_)
  refine TL_part 7 (hl 7 [(6, (zd (B false)))]) (mk 40 [(0, (rf 3 0)), (5, (di r_10)), (13, (rf 3 0)), (14, (di r_10)), (15, (db (decide (r_10 < 0)))), (16, (db (decide (r_10 < 0)))), (17, (di r_10)), (18, (db (decide (r_10 > 20)))), (19, (db (decide (r_10 > 20))))] [(0, gB0), (1, gB1), (2, gB2), (3, (.var [(.dat (.sl 1 (r_1.rest.map elB)))])), (8, (.var [(.dat (I 0)), (.dat (I 0)), (.dat (.str ([] : List UInt8))), (.dat nilS), (.dat nilS)]))]) _ (by kernel_rfl) (z8 (zc (gd_ff b12) (z1 (zc (gd_ff b12) (z2 (zc b12 zt)))))) rfl ?_
  refine TL_inlineP 227 33 [] Tryd.f33 _ rfl rfl (by kernel_rfl) Tryd.func33 rfl rfl (by decide) ?_
  refine T_turn [] [0, 1] [] (mk 6 [(0, (rf 3 0)), (1, (db (decide (r_10 > 20))))] [(0, gB0), (1, gB1), (2, gB2), (3, (.var [(.dat (.sl 1 (r_1.rest.map elB)))])), (8, (.var [(.dat (I 0)), (.dat (I 0)), (.dat (.str ([] : List UInt8))), (.dat nilS), (.dat nilS)]))]) (by kernel_rfl) ?_
  refine T_reg [] [4] [] (mk 6 [(4, (db (decide (r_10 > 20))))] [(0, gB0), (1, gB1), (2, gB2), (3, (.var [(.dat (.sl 1 (r_1.rest.map elB)))])), (8, (.var [(.dat (I 0)), (.dat (I 0)), (.dat (.str ([] : List UInt8))), (.dat nilS), (.dat nilS)]))]) _ (by kernel_rfl) (z2 zt) ?_
  refine T_cond (decide (r_10 > 20)) (by kernel_rfl) (fun b13 => ?_) (fun b13 => ?_)
  replace h := ite_t b13 h
  refine T_parts ?_
  refine TL_part 1 [] (mk 6 [(4, (db (decide (r_10 > 20)))), (5, (dt (.iface 29 (I 20))))] [(0, gB0), (1, gB1), (2, gB2), (3, (.var [(.dat (.sl 1 (r_1.rest.map elB)))])), (8, (.var [(.dat (I 0)), (.dat (I 0)), (.dat (.str ([] : List UInt8))), (.dat nilS), (.dat nilS)]))]) _ (by kernel_rfl) (z2 zt) rfl ?_
  refine TL_panic 29 (I 20) rfl rfl (by kernel_rfl) ?_
  obtain rfl := some_inv h
  exact (show _ ∧ _ from ⟨rfl, (show _ ∧ _ from ⟨rfl, (show _ ∧ _ from ⟨rfl, (show _ ∧ _ from ⟨rfl, (show _ ∧ _ from ⟨rfl, ⟨_, rfl, lk3 (by kernel_rfl) (by kernel_rfl) (by kernel_rfl)⟩⟩)⟩)⟩)⟩)⟩)
  replace h := ite_f b13 h
  refine T_skip ?_
  refine ⟨[], by kernel_rfl, ?_⟩
  refine TL_turn [] [0, 5, 20] [] (mk 40 [(0, (rf 3 0)), (5, (di r_10)), (20, (.tup []))] [(0, gB0), (1, gB1), (2, gB2), (3, (.var [(.dat (.sl 1 (r_1.rest.map elB)))])), (8, (.var [(.dat (I 0)), (.dat (I 0)), (.dat (.str ([] : List UInt8))), (.dat nilS), (.dat nilS)]))]) (by kernel_rfl) ?_
  refine TL_nilQ ?_
  refine T_turn [] [0, 5] [] (mk 40 [(0, (rf 3 0)), (5, (di r_10))] [(0, gB0), (1, gB1), (2, gB2), (3, (.var [(.dat (.sl 1 (r_1.rest.map elB)))])), (8, (.var [(.dat (I 0)), (.dat (I 0)), (.dat (.str ([] : List UInt8))), (.dat nilS), (.dat nilS)]))]) (by kernel_rfl) ?_
  obtain ⟨s_14, e15, h⟩ := sbm_inv 1 elB h
  refine T_reg (hl 7 [(6, (zd (.sl 1 (s_14.map elB))))]) [0, 5, 6] [] (mk 40 [(0, (rf 3 0)), (5, (di r_10)), (6, (dt (.sl 1 (s_14.map elB))))] [(0, gB0), (1, gB1), (2, gB2), (3, (.var [(.dat (.sl 1 (r_1.rest.map elB)))])), (8, (.var [(.dat (I 0)), (.dat (I 0)), (.dat (.str ([] : List UInt8))), (.dat nilS), (.dat nilS)]))]) _ (by kernel_rfl) (z8 (z5 (zc e15 (z2 zt)))) ?_
  obtain ⟨c16, h⟩ := ckI_inv h
  obtain ⟨s_17, e18, h⟩ := sb_inv 1 elB h
  refine T_reg (hl 8 [(6, (zd (I (r_10 + 1)))), (7, (zd (.sl 1 (s_17.map elB))))]) [6] [] (mk 40 [(6, (dt (.sl 1 (s_14.map elB))))] [(0, gB0), (1, gB1), (2, gB2), (3, (.var [(.dat (.sl 1 (s_17.map elB)))])), (8, (.var [(.dat (I 0)), (.dat (I 0)), (.dat (.str ([] : List UInt8))), (.dat nilS), (.dat nilS)]))]) _ (by kernel_rfl) (z8 (z5 (zc c16 (z1 (zc e18 (z6 zt)))))) ?_
  refine T_reg [zn, (zd (.str s_14))] [4] [] (mk 40 [(4, (dt (.str s_14)))] [(0, gB0), (1, gB1), (2, gB2), (3, (.var [(.dat (.sl 1 (s_17.map elB)))])), (8, (.var [(.dat (I 0)), (.dat (I 0)), (.dat (.str ([] : List UInt8))), (.dat nilS), (.dat nilS)]))]) _ (by kernel_rfl) (z3 (zc (rfl : s_14.map elB = s_14.map elB) (z2 zt))) ?_
  refine T_ret ?_
  refine ⟨[(dt (.str s_14))], by kernel_rfl, ?_⟩
  refine TL_turn [] [0, 10] [] (mk 27 [(0, (rf 3 0)), (10, (dt (.str s_14)))] [(0, gB0), (1, gB1), (2, gB2), (3, (.var [(.dat (.sl 1 (s_17.map elB)))])), (8, (.var [(.dat (I 0)), (.dat (I 0)), (.dat (.str ([] : List UInt8))), (.dat nilS), (.dat nilS)]))]) (by kernel_rfl) ?_
  refine TL_part 1 [] (mk 27 [(0, (rf 3 0)), (5, (dt (.str s_14))), (10, (dt (.str s_14)))] [(0, gB0), (1, gB1), (2, gB2), (3, (.var [(.dat (.sl 1 (s_17.map elB)))])), (8, (.var [(.dat (I 0)), (.dat (I 0)), (.dat (.str ([] : List UInt8))), (.dat nilS), (.dat nilS)]))]) _ (by kernel_rfl) (z2 zt) rfl ?_
  refine TL_nilQ ?_
  refine T_turn [] [0, 5] [] (mk 27 [(0, (rf 3 0)), (5, (dt (.str s_14)))] [(0, gB0), (1, gB1), (2, gB2), (3, (.var [(.dat (.sl 1 (s_17.map elB)))])), (8, (.var [(.dat (I 0)), (.dat (I 0)), (.dat (.str ([] : List UInt8))), (.dat nilS), (.dat nilS)]))]) (by kernel_rfl) ?_
  refine T_seqJ (α := (Int) ⊕ (Unit)) (fun v => match v with | (.inl n_19) => (mk 27 [(0, (rf 3 0)), (5, (dt (.str s_14))), (6, (di n_19)), (7, (dt (.con .nilIface)))] [(0, gB0), (1, gB1), (2, gB2), (3, (.var [(.dat (.sl 1 (s_17.map elB)))])), (8, (.var [(.dat (I 0)), (.dat (I 0)), (.dat (.str ([] : List UInt8))), (.dat nilS), (.dat nilS)]))]) | (.inr _) => (mk 27 [(0, (rf 3 0)), (5, (dt (.str s_14))), (6, (dt .any)), (7, (dt (.iface 100 .any)))] [(0, gB0), (1, gB1), (2, gB2), (3, (.var [(.dat (.sl 1 (s_17.map elB)))])), (8, (.var [(.dat (I 0)), (.dat (I 0)), (.dat (.str ([] : List UInt8))), (.dat nilS), (.dat nilS)]))])) (fun v => match v with | (.inl n_19) => g__codec_reader_value_s_j2 s_14 s_17 n_19 = some r | (.inr _) => g__codec_reader_value_s_j3 s_14 s_17 = some r) (fun v h => ?_) ?_
  rcases v with v | v
  revert h; revert v; intro n_19 h
  refine T_seq (T_parts ?_)
  refine TL_part 2 [] (mk 27 [(0, (rf 3 0)), (5, (dt (.str s_14))), (6, (di n_19)), (7, (dt (.con .nilIface))), (16, (rf 3 0)), (17, (dt (.con .nilIface)))] [(0, gB0), (1, gB1), (2, gB2), (3, (.var [(.dat (.sl 1 (s_17.map elB)))])), (8, (.var [(.dat (I 0)), (.dat (I 0)), (.dat (.str ([] : List UInt8))), (.dat nilS), (.dat nilS)]))]) _ (by kernel_rfl) (z4 zt) rfl ?_
  refine TL_neNil 84 84 18 false rfl rfl rfl (by kernel_rfl) (.inr ⟨rfl, by kernel_rfl⟩) ?_
  refine TL_turn [] [5, 6, 16, 18] [] (mk 27 [(5, (dt (.str s_14))), (6, (di n_19)), (16, (rf 3 0)), (18, (db false))] [(0, gB0), (1, gB1), (2, gB2), (3, (.var [(.dat (.sl 1 (s_17.map elB)))])), (8, (.var [(.dat (I 0)), (.dat (I 0)), (.dat (.str ([] : List UInt8))), (.dat nilS), (.dat nilS)]))]) (by kernel_rfl) ?_
  refine TL_part 2 [] (mk 27 [(5, (dt (.str s_14))), (6, (di n_19)), (16, (rf 3 0)), (18, (db false)), (19, (db false)), (20, (di n_19))] [(0, gB0), (1, gB1), (2, gB2), (3, (.var [(.dat (.sl 1 (s_17.map elB)))])), (8, (.var [(.dat (I 0)), (.dat (I 0)), (.dat (.str ([] : List UInt8))), (.dat nilS), (.dat nilS)]))]) _ (by kernel_rfl) (z2 (zc (gd_ff (rfl : false = false)) (z1 zt))) rfl ?_
  refine TL_guard (p := (false == false) = true) (by kernel_rfl) (gd_ff (rfl : false = false)) ?_
  obtain ⟨c20, h⟩ := ckI_in h
  refine TL_fmtInt Tryd.lformat 21 0 n_19 rfl rfl rfl (by kernel_rfl) (by kernel_rfl) (by kernel_rfl) c20 (by kernel_rfl) ?_
  refine TL_turn [] [5, 6, 16, 19, 21] [] (mk 27 [(5, (dt (.str s_14))), (6, (di n_19)), (16, (rf 3 0)), (19, (db false)), (21, (dt (.str (Lib.itoa n_19))))] [(0, gB0), (1, gB1), (2, gB2), (3, (.var [(.dat (.sl 1 (s_17.map elB)))])), (8, (.var [(.dat (I 0)), (.dat (I 0)), (.dat (.str ([] : List UInt8))), (.dat nilS), (.dat nilS)]))]) (by kernel_rfl) ?_
  refine TL_part 3 [zn, zn, (zd (B false))] (mk 27 [(5, (dt (.str s_14))), (6, (di n_19)), (16, (rf 3 0)), (19, (db false)), (21, (dt (.str (Lib.itoa n_19)))), (22, (dt (.str s_14))), (23, (db (!((Lib.itoa n_19) == s_14)))), (24, (db (!((Lib.itoa n_19) == s_14))))] [(0, gB0), (1, gB1), (2, gB2), (3, (.var [(.dat (.sl 1 (s_17.map elB)))])), (8, (.var [(.dat (I 0)), (.dat (I 0)), (.dat (.str ([] : List UInt8))), (.dat nilS), (.dat nilS)]))]) _ (by kernel_rfl) (zc (gd_ff (rfl : false = false)) (z1 (zc (gd_ff (rfl : false = false)) (z2 (zc (rfl : false = false) zt))))) rfl ?_
  refine TL_inlineP 187 33 [] Tryd.f33 _ rfl rfl (by kernel_rfl) Tryd.func33 rfl rfl (by decide) ?_
  refine T_turn [] [0, 1] [] (mk 6 [(0, (rf 3 0)), (1, (db (!((Lib.itoa n_19) == s_14))))] [(0, gB0), (1, gB1), (2, gB2), (3, (.var [(.dat (.sl 1 (s_17.map elB)))])), (8, (.var [(.dat (I 0)), (.dat (I 0)), (.dat (.str ([] : List UInt8))), (.dat nilS), (.dat nilS)]))]) (by kernel_rfl) ?_
  refine T_reg [] [4] [] (mk 6 [(4, (db (!((Lib.itoa n_19) == s_14))))] [(0, gB0), (1, gB1), (2, gB2), (3, (.var [(.dat (.sl 1 (s_17.map elB)))])), (8, (.var [(.dat (I 0)), (.dat (I 0)), (.dat (.str ([] : List UInt8))), (.dat nilS), (.dat nilS)]))]) _ (by kernel_rfl) (z2 zt) ?_
  refine T_cond (!((Lib.itoa n_19) == s_14)) (by kernel_rfl) (fun b21 => ?_) (fun b21 => ?_)
  replace h := ite_t b21 h
  refine T_parts ?_
  refine TL_part 1 [] (mk 6 [(4, (db (!((Lib.itoa n_19) == s_14)))), (5, (dt (.iface 29 (I 20))))] [(0, gB0), (1, gB1), (2, gB2), (3, (.var [(.dat (.sl 1 (s_17.map elB)))])), (8, (.var [(.dat (I 0)), (.dat (I 0)), (.dat (.str ([] : List UInt8))), (.dat nilS), (.dat nilS)]))]) _ (by kernel_rfl) (z2 zt) rfl ?_
  refine TL_panic 29 (I 20) rfl rfl (by kernel_rfl) ?_
  obtain rfl := some_inv h
  exact (show _ ∧ _ from ⟨rfl, (show _ ∧ _ from ⟨rfl, (show _ ∧ _ from ⟨rfl, (show _ ∧ _ from ⟨rfl, ⟨_, rfl, lk3 (by kernel_rfl) (by kernel_rfl) (by kernel_rfl)⟩⟩)⟩)⟩)⟩)
  replace h := ite_f b21 h
  refine T_skip ?_
  refine ⟨[], by kernel_rfl, ?_⟩
  refine TL_turn [] [6, 25] [] (mk 27 [(6, (di n_19)), (25, (.tup []))] [(0, gB0), (1, gB1), (2, gB2), (3, (.var [(.dat (.sl 1 (s_17.map elB)))])), (8, (.var [(.dat (I 0)), (.dat (I 0)), (.dat (.str ([] : List UInt8))), (.dat nilS), (.dat nilS)]))]) (by kernel_rfl) ?_
  refine TL_nilQ ?_
  refine T_turn [] [6] [] (mk 27 [(6, (di n_19))] [(0, gB0), (1, gB1), (2, gB2), (3, (.var [(.dat (.sl 1 (s_17.map elB)))])), (8, (.var [(.dat (I 0)), (.dat (I 0)), (.dat (.str ([] : List UInt8))), (.dat nilS), (.dat nilS)]))]) (by kernel_rfl) ?_
  refine T_reg [] [4] [] (mk 27 [(4, (di n_19))] [(0, gB0), (1, gB1), (2, gB2), (3, (.var [(.dat (.sl 1 (s_17.map elB)))])), (8, (.var [(.dat (I 0)), (.dat (I 0)), (.dat (.str ([] : List UInt8))), (.dat nilS), (.dat nilS)]))]) _ (by kernel_rfl) (z4 zt) ?_
  refine T_ret ?_
  refine ⟨[(di n_19)], by kernel_rfl, ?_⟩
  refine TL_turn [] [0, 6] [] (mk 38 [(0, (rf 3 0)), (6, (di n_19))] [(0, gB0), (1, gB1), (2, gB2), (3, (.var [(.dat (.sl 1 (s_17.map elB)))])), (8, (.var [(.dat (I 0)), (.dat (I 0)), (.dat (.str ([] : List UInt8))), (.dat nilS), (.dat nilS)]))]) (by kernel_rfl) ?_
  refine TL_part 1 [] (mk 38 [(0, (rf 3 0)), (3, (di n_19)), (6, (di n_19))] [(0, gB0), (1, gB1), (2, gB2), (3, (.var [(.dat (.sl 1 (s_17.map elB)))])), (8, (.var [(.dat (I 0)), (.dat (I 0)), (.dat (.str ([] : List UInt8))), (.dat nilS), (.dat nilS)]))]) _ (by kernel_rfl) (z2 zt) rfl ?_
  refine TL_nilQ ?_
  refine T_turn [] [0, 3] [] (mk 38 [(0, (rf 3 0)), (3, (di n_19))] [(0, gB0), (1, gB1), (2, gB2), (3, (.var [(.dat (.sl 1 (s_17.map elB)))])), (8, (.var [(.dat (I 0)), (.dat (I 0)), (.dat (.str ([] : List UInt8))), (.dat nilS), (.dat nilS)]))]) (by kernel_rfl) ?_
  rcases Bool.eq_false_or_eq_true (decide (n_19 < 0)) with b22 | b22
  replace h := ite_t b22 h
  refine T_seq (T_parts ?_)
  refine TL_part 12 [zn, zn, zn, zn, zg, zg, zg, zg, zg, zg, zg, (zd (B true))] (mk 38 [(0, (rf 3 0)), (3, (di n_19)), (7, (rf 3 0)), (8, (di n_19)), (9, (db (decide (n_19 < 0)))), (10, (db (decide (n_19 < 0)))), (11, (dt (.tup []))), (12, (dt (.tup []))), (13, (dt (.tup []))), (14, (dt (.tup []))), (15, (dt (.tup []))), (16, (dt (.tup []))), (17, (dt (.tup []))), (18, (db true))] [(0, gB0), (1, gB1), (2, gB2), (3, (.var [(.dat (.sl 1 (s_17.map elB)))])), (8, (.var [(.dat (I 0)), (.dat (I 0)), (.dat (.str ([] : List UInt8))), (.dat nilS), (.dat nilS)]))]) _ (by kernel_rfl) (z8 (zc (gd_tf b22) (zc (gd_tf b22) (zc (gd_tf b22) (zc (gd_tf b22) (zc (gd_tf b22) (zc (gd_tf b22) (zc (gd_tf b22) (z1 (zc b22 zt)))))))))) rfl ?_
  refine TL_inlineP 160 33 [] Tryd.f33 _ rfl rfl (by kernel_rfl) Tryd.func33 rfl rfl (by decide) ?_
  refine T_turn [] [0, 1] [] (mk 6 [(0, (rf 3 0)), (1, (db true))] [(0, gB0), (1, gB1), (2, gB2), (3, (.var [(.dat (.sl 1 (s_17.map elB)))])), (8, (.var [(.dat (I 0)), (.dat (I 0)), (.dat (.str ([] : List UInt8))), (.dat nilS), (.dat nilS)]))]) (by kernel_rfl) ?_
  refine T_reg [] [4] [] (mk 6 [(4, (db true))] [(0, gB0), (1, gB1), (2, gB2), (3, (.var [(.dat (.sl 1 (s_17.map elB)))])), (8, (.var [(.dat (I 0)), (.dat (I 0)), (.dat (.str ([] : List UInt8))), (.dat nilS), (.dat nilS)]))]) _ (by kernel_rfl) (z2 zt) ?_
  refine T_cond true (by kernel_rfl) (fun _ => ?_) (fun h => absurd (h.symm.trans (rfl : true = true)) (by decide))
  refine T_parts ?_
  refine TL_part 1 [] (mk 6 [(4, (db true)), (5, (dt (.iface 29 (I 20))))] [(0, gB0), (1, gB1), (2, gB2), (3, (.var [(.dat (.sl 1 (s_17.map elB)))])), (8, (.var [(.dat (I 0)), (.dat (I 0)), (.dat (.str ([] : List UInt8))), (.dat nilS), (.dat nilS)]))]) _ (by kernel_rfl) (z2 zt) rfl ?_
  refine TL_panic 29 (I 20) rfl rfl (by kernel_rfl) ?_
  obtain rfl := some_inv h
  exact (show _ ∧ _ from ⟨rfl, (show _ ∧ _ from ⟨rfl, (show _ ∧ _ from ⟨rfl, ⟨_, rfl, lk3 (by kernel_rfl) (by kernel_rfl) (by kernel_rfl)⟩⟩)⟩)⟩)
  replace h := ite_f b22 h
  refine T_seq (T_parts ?_)
  refine TL_part 12 (hl 12 [(9, (zd (I ((s_17.length : Nat) : Int)))), (11, (zd (B false)))]) (mk 38 [(0, (rf 3 0)), (3, (di n_19)), (7, (rf 3 0)), (8, (di n_19)), (9, (db (decide (n_19 < 0)))), (10, (db (decide (n_19 < 0)))), (11, (di n_19)), (12, (rf 3 0)), (13, (rf 3 0)), (14, (rf 3 0)), (15, (dt (.sl 1 (s_17.map elB)))), (16, (di ((s_17.length : Nat) : Int))), (17, (db (decide (n_19 > ((s_17.length : Nat) : Int))))), (18, (db (decide (n_19 > ((s_17.length : Nat) : Int)))))] [(0, gB0), (1, gB1), (2, gB2), (3, (.var [(.dat (.sl 1 (s_17.map elB)))])), (8, (.var [(.dat (I 0)), (.dat (I 0)), (.dat (.str ([] : List UInt8))), (.dat nilS), (.dat nilS)]))]) _ (by kernel_rfl) (z8 (zc (gd_ff b22) (z1 (zc (gd_ff b22) (z1 (zc (gd_ff b22) (z1 (zc (gd_ff b22) (z1 (zc (gd_ff b22) (z1 (zc (gd_ff b22) (zc (len_s elB s_17) (zc (gd_ff b22) (z2 (zc b22 zt)))))))))))))))) rfl ?_
  refine TL_inlineP 160 33 [] Tryd.f33 _ rfl rfl (by kernel_rfl) Tryd.func33 rfl rfl (by decide) ?_
  refine T_turn [] [0, 1] [] (mk 6 [(0, (rf 3 0)), (1, (db (decide (n_19 > ((s_17.length : Nat) : Int)))))] [(0, gB0), (1, gB1), (2, gB2), (3, (.var [(.dat (.sl 1 (s_17.map elB)))])), (8, (.var [(.dat (I 0)), (.dat (I 0)), (.dat (.str ([] : List UInt8))), (.dat nilS), (.dat nilS)]))]) (by kernel_rfl) ?_
  refine T_reg [] [4] [] (mk 6 [(4, (db (decide (n_19 > ((s_17.length : Nat) : Int)))))] [(0, gB0), (1, gB1), (2, gB2), (3, (.var [(.dat (.sl 1 (s_17.map elB)))])), (8, (.var [(.dat (I 0)), (.dat (I 0)), (.dat (.str ([] : List UInt8))), (.dat nilS), (.dat nilS)]))]) _ (by kernel_rfl) (z2 zt) ?_
  refine T_cond (decide (n_19 > ((s_17.length : Nat) : Int))) (by kernel_rfl) (fun b23 => ?_) (fun b23 => ?_)
  replace h := ite_t b23 h
  refine T_parts ?_
  refine TL_part 1 [] (mk 6 [(4, (db (decide (n_19 > ((s_17.length : Nat) : Int))))), (5, (dt (.iface 29 (I 20))))] [(0, gB0), (1, gB1), (2, gB2), (3, (.var [(.dat (.sl 1 (s_17.map elB)))])), (8, (.var [(.dat (I 0)), (.dat (I 0)), (.dat (.str ([] : List UInt8))), (.dat nilS), (.dat nilS)]))]) _ (by kernel_rfl) (z2 zt) rfl ?_
  refine TL_panic 29 (I 20) rfl rfl (by kernel_rfl) ?_
  obtain rfl := some_inv h
  exact (show _ ∧ _ from ⟨rfl, (show _ ∧ _ from ⟨rfl, (show _ ∧ _ from ⟨rfl, ⟨_, rfl, lk3 (by kernel_rfl) (by kernel_rfl) (by kernel_rfl)⟩⟩)⟩)⟩)
  replace h := ite_f b23 h
  refine T_skip ?_
  refine ⟨[], by kernel_rfl, ?_⟩
  refine TL_turn [] [0, 3, 19] [] (mk 38 [(0, (rf 3 0)), (3, (di n_19)), (19, (.tup []))] [(0, gB0), (1, gB1), (2, gB2), (3, (.var [(.dat (.sl 1 (s_17.map elB)))])), (8, (.var [(.dat (I 0)), (.dat (I 0)), (.dat (.str ([] : List UInt8))), (.dat nilS), (.dat nilS)]))]) (by kernel_rfl) ?_
  refine TL_nilQ ?_
  refine T_turn [] [0, 3] [] (mk 38 [(0, (rf 3 0)), (3, (di n_19))] [(0, gB0), (1, gB1), (2, gB2), (3, (.var [(.dat (.sl 1 (s_17.map elB)))])), (8, (.var [(.dat (I 0)), (.dat (I 0)), (.dat (.str ([] : List UInt8))), (.dat nilS), (.dat nilS)]))]) (by kernel_rfl) ?_
  obtain ⟨s_24, e25, h⟩ := sbm_inv 1 elB h
  refine T_reg (hl 7 [(6, (zd (.sl 1 (s_24.map elB))))]) [0, 3, 4] [] (mk 38 [(0, (rf 3 0)), (3, (di n_19)), (4, (dt (.sl 1 (s_24.map elB))))] [(0, gB0), (1, gB1), (2, gB2), (3, (.var [(.dat (.sl 1 (s_17.map elB)))])), (8, (.var [(.dat (I 0)), (.dat (I 0)), (.dat (.str ([] : List UInt8))), (.dat nilS), (.dat nilS)]))]) _ (by kernel_rfl) (z8 (z5 (zc e25 (z2 zt)))) ?_
  obtain ⟨s_26, e27, h⟩ := sb_inv 1 elB h
  refine T_reg (hl 7 [(6, (zd (.sl 1 (s_26.map elB))))]) [4] [] (mk 38 [(4, (dt (.sl 1 (s_24.map elB))))] [(0, gB0), (1, gB1), (2, gB2), (3, (.var [(.dat (.sl 1 (s_26.map elB)))])), (8, (.var [(.dat (I 0)), (.dat (I 0)), (.dat (.str ([] : List UInt8))), (.dat nilS), (.dat nilS)]))]) _ (by kernel_rfl) (z8 (z5 (zc e27 (z6 zt)))) ?_
  refine T_reg [zn, (zd (.str s_24))] [2] [] (mk 38 [(2, (dt (.str s_24)))] [(0, gB0), (1, gB1), (2, gB2), (3, (.var [(.dat (.sl 1 (s_26.map elB)))])), (8, (.var [(.dat (I 0)), (.dat (I 0)), (.dat (.str ([] : List UInt8))), (.dat nilS), (.dat nilS)]))]) _ (by kernel_rfl) (z3 (zc (rfl : s_24.map elB = s_24.map elB) (z2 zt))) ?_
  refine T_ret ?_
  refine ⟨[(dt (.str s_24))], by kernel_rfl, ?_⟩
  refine TL_turn [] [4, 28] [] (mk 118 [(4, (rf 8 0)), (28, (dt (.str s_24)))] [(0, gB0), (1, gB1), (2, gB2), (3, (.var [(.dat (.sl 1 (s_26.map elB)))])), (8, (.var [(.dat (I 0)), (.dat (I 0)), (.dat (.str ([] : List UInt8))), (.dat nilS), (.dat nilS)]))]) (by kernel_rfl) ?_
  refine TL_part 2 [] (mk 118 [(4, (rf 8 0)), (28, (dt (.str s_24))), (29, (.agg [(.dat (I 2)), (.dat (I 0)), (.dat (.str s_24)), (.dat nilS), (.dat nilS)]))] [(0, gB0), (1, gB1), (2, gB2), (3, (.var [(.dat (.sl 1 (s_26.map elB)))])), (8, (.var [(.dat (I 2)), (.dat (I 0)), (.dat (.str s_24)), (.dat nilS), (.dat nilS)]))]) _ (by kernel_rfl) (z4 zt) rfl ?_
  refine TL_nilQ ?_
  refine T_turn [] [4] [] (mk 118 [(4, (rf 8 0))] [(0, gB0), (1, gB1), (2, gB2), (3, (.var [(.dat (.sl 1 (s_26.map elB)))])), (8, (.var [(.dat (I 2)), (.dat (I 0)), (.dat (.str s_24)), (.dat nilS), (.dat nilS)]))]) (by kernel_rfl) ?_
  refine T_arr [.nilC 8 3 5, .nilC 8 4 1, .ice 8] [4] [8] [0, 1, 2, 3] (mk 118 [(4, (dt (.ptr [(I 2), (I 0), (.str s_24), (.sl 5 (([] : List Val).map encVal)), (.sl 1 (([] : List (List UInt8)).map elStr))])))] [(0, gB0), (1, gB1), (2, gB2), (3, (.var [(.dat (.sl 1 (s_26.map elB)))]))]) (by kernel_rfl) ?_
  refine T_ret ?_
  obtain rfl := some_inv h
  exact ⟨[(.agg [(.dat (I 2)), (.dat (I 0)), (.dat (.str s_24)), (.dat (.sl 5 (([] : List Val).map encVal))), (.dat (.sl 1 (([] : List (List UInt8)).map elStr)))])], by kernel_rfl, rfl⟩
  refine T_seq (T_parts ?_)
  refine TL_part 2 [] (mk 27 [(0, (rf 3 0)), (5, (dt (.str s_14))), (6, (dt .any)), (7, (dt (.iface 100 .any))), (16, (rf 3 0)), (17, (dt (.iface 100 .any)))] [(0, gB0), (1, gB1), (2, gB2), (3, (.var [(.dat (.sl 1 (s_17.map elB)))])), (8, (.var [(.dat (I 0)), (.dat (I 0)), (.dat (.str ([] : List UInt8))), (.dat nilS), (.dat nilS)]))]) _ (by kernel_rfl) (z4 zt) rfl ?_
  refine TL_neNil 84 84 18 true rfl rfl rfl (by kernel_rfl) (.inl ⟨rfl, 100, .any, by kernel_rfl⟩) ?_
  refine TL_turn [] [5, 6, 16, 18] [] (mk 27 [(5, (dt (.str s_14))), (6, (dt .any)), (16, (rf 3 0)), (18, (db true))] [(0, gB0), (1, gB1), (2, gB2), (3, (.var [(.dat (.sl 1 (s_17.map elB)))])), (8, (.var [(.dat (I 0)), (.dat (I 0)), (.dat (.str ([] : List UInt8))), (.dat nilS), (.dat nilS)]))]) (by kernel_rfl) ?_
  refine TL_part 6 [zn, zg, zg, zg, zg, (zd (B true))] (mk 27 [(5, (dt (.str s_14))), (6, (dt .any)), (16, (rf 3 0)), (18, (db true)), (19, (db true)), (20, (dt (.tup []))), (21, (dt (.tup []))), (22, (dt (.tup []))), (23, (dt (.tup []))), (24, (db true))] [(0, gB0), (1, gB1), (2, gB2), (3, (.var [(.dat (.sl 1 (s_17.map elB)))])), (8, (.var [(.dat (I 0)), (.dat (I 0)), (.dat (.str ([] : List UInt8))), (.dat nilS), (.dat nilS)]))]) _ (by kernel_rfl) (z2 (zc (gd_tf (rfl : true = true)) (zc (gd_tf (rfl : true = true)) (zc (gd_tf (rfl : true = true)) (zc (gd_tf (rfl : true = true)) (z1 (zc (rfl : true = true) zt))))))) rfl ?_
  refine TL_inlineP 187 33 [] Tryd.f33 _ rfl rfl (by kernel_rfl) Tryd.func33 rfl rfl (by decide) ?_
  refine T_turn [] [0, 1] [] (mk 6 [(0, (rf 3 0)), (1, (db true))] [(0, gB0), (1, gB1), (2, gB2), (3, (.var [(.dat (.sl 1 (s_17.map elB)))])), (8, (.var [(.dat (I 0)), (.dat (I 0)), (.dat (.str ([] : List UInt8))), (.dat nilS), (.dat nilS)]))]) (by kernel_rfl) ?_
  refine T_reg [] [4] [] (mk 6 [(4, (db true))] [(0, gB0), (1, gB1), (2, gB2), (3, (.var [(.dat (.sl 1 (s_17.map elB)))])), (8, (.var [(.dat (I 0)), (.dat (I 0)), (.dat (.str ([] : List UInt8))), (.dat nilS), (.dat nilS)]))]) _ (by kernel_rfl) (z2 zt) ?_
  refine T_cond true (by kernel_rfl) (fun _ => ?_) (fun h => absurd (h.symm.trans (rfl : true = true)) (by decide))
  refine T_parts ?_
  refine TL_part 1 [] (mk 6 [(4, (db true)), (5, (dt (.iface 29 (I 20))))] [(0, gB0), (1, gB1), (2, gB2), (3, (.var [(.dat (.sl 1 (s_17.map elB)))])), (8, (.var [(.dat (I 0)), (.dat (I 0)), (.dat (.str ([] : List UInt8))), (.dat nilS), (.dat nilS)]))]) _ (by kernel_rfl) (z2 zt) rfl ?_
  refine TL_panic 29 (I 20) rfl rfl (by kernel_rfl) ?_
  obtain rfl := some_inv h
  exact (show _ ∧ _ from ⟨rfl, (show _ ∧ _ from ⟨rfl, (show _ ∧ _ from ⟨rfl, (show _ ∧ _ from ⟨rfl, ⟨_, rfl, lk3 (by kernel_rfl) (by kernel_rfl) (by kernel_rfl)⟩⟩)⟩)⟩)⟩)
  refine T_parts ?_
  refine TL_part 1 [] (mk 27 [(0, (rf 3 0)), (5, (dt (.str s_14))), (12, (dt (.str s_14)))] [(0, gB0), (1, gB1), (2, gB2), (3, (.var [(.dat (.sl 1 (s_17.map elB)))])), (8, (.var [(.dat (I 0)), (.dat (I 0)), (.dat (.str ([] : List UInt8))), (.dat nilS), (.dat nilS)]))]) _ (by kernel_rfl) (z2 zt) rfl ?_
  obtain ⟨c28, h⟩ := ck_inv h
  refine TL_parseInt Tryd.lparse 13 1 2 s_14 rfl rfl rfl (by kernel_rfl) (by kernel_rfl) (by kernel_rfl) (by kernel_rfl) c28 (by kernel_rfl) (by kernel_rfl) (fun n_29 p30 => ?_) (fun p30 => ?_)
  replace h := onP_some h p30
  refine TL_turn [] [0, 5, 13] [] (mk 27 [(0, (rf 3 0)), (5, (dt (.str s_14))), (13, (.tup [(false, [(.dat (I n_29))]), (false, [(.dat (.con .nilIface))])]))] [(0, gB0), (1, gB1), (2, gB2), (3, (.var [(.dat (.sl 1 (s_17.map elB)))])), (8, (.var [(.dat (I 0)), (.dat (I 0)), (.dat (.str ([] : List UInt8))), (.dat nilS), (.dat nilS)]))]) (by kernel_rfl) ?_
  refine TL_part 5 [] (mk 27 [(0, (rf 3 0)), (5, (dt (.str s_14))), (6, (di n_29)), (7, (dt (.con .nilIface))), (11, (.tup [(false, [(.dat (I n_29))]), (false, [(.dat (.con .nilIface))])])), (13, (.tup [(false, [(.dat (I n_29))]), (false, [(.dat (.con .nilIface))])])), (14, (di n_29)), (15, (dt (.con .nilIface)))] [(0, gB0), (1, gB1), (2, gB2), (3, (.var [(.dat (.sl 1 (s_17.map elB)))])), (8, (.var [(.dat (I 0)), (.dat (I 0)), (.dat (.str ([] : List UInt8))), (.dat nilS), (.dat nilS)]))]) _ (by kernel_rfl) (z8 (z2 zt)) rfl ?_
  refine TL_nilQ ?_
  exact Exists.intro (.inl n_29) (And.intro h (arr [] [0, 5, 6, 7] [] [0, 1, 2, 3, 8] (by kernel_rfl)))
  replace h := onP_none h p30
  refine TL_turn [] [0, 5, 13] [] (mk 27 [(0, (rf 3 0)), (5, (dt (.str s_14))), (13, (.tup [(false, [(.dat .any)]), (false, [(.dat (.iface 100 .any))])]))] [(0, gB0), (1, gB1), (2, gB2), (3, (.var [(.dat (.sl 1 (s_17.map elB)))])), (8, (.var [(.dat (I 0)), (.dat (I 0)), (.dat (.str ([] : List UInt8))), (.dat nilS), (.dat nilS)]))]) (by kernel_rfl) ?_
  refine TL_part 5 [] (mk 27 [(0, (rf 3 0)), (5, (dt (.str s_14))), (6, (dt .any)), (7, (dt (.iface 100 .any))), (11, (.tup [(false, [(.dat .any)]), (false, [(.dat (.iface 100 .any))])])), (13, (.tup [(false, [(.dat .any)]), (false, [(.dat (.iface 100 .any))])])), (14, (dt .any)), (15, (dt (.iface 100 .any)))] [(0, gB0), (1, gB1), (2, gB2), (3, (.var [(.dat (.sl 1 (s_17.map elB)))])), (8, (.var [(.dat (I 0)), (.dat (I 0)), (.dat (.str ([] : List UInt8))), (.dat nilS), (.dat nilS)]))]) _ (by kernel_rfl) (z8 (z2 zt)) rfl ?_
  refine TL_nilQ ?_
  exact Exists.intro (.inr ()) (And.intro h (arr [] [0, 5, 6, 7] [] [0, 1, 2, 3, 8] (by kernel_rfl)))
  replace h := ite_f b9 h
  refine T_skip ?_
  obtain ⟨s_31, e32, h⟩ := sb_inv 1 elB h
  refine T_reg (hl 6 [(5, (zd (.sl 1 (s_31.map elB))))]) [0, 1, 4, 5] [] (mk 118 [(0, (rf 3 0)), (1, (di depth_2)), (4, (rf 8 0)), (5, (dt (.int .u8 ((x_4.toNat : Nat) : Int))))] [(0, gB0), (1, gB1), (2, gB2), (3, (.var [(.dat (.sl 1 (s_31.map elB)))])), (8, (.var [(.dat (I 0)), (.dat (I 0)), (.dat (.str ([] : List UInt8))), (.dat nilS), (.dat nilS)]))]) _ (by kernel_rfl) (z8 (z3 (zc e32 (z6 zt)))) ?_
  refine T_seqJ (α := Int) (fun (v_33 : Int) => (mk 118 [(0, (rf 3 0)), (1, (di depth_2)), (4, (rf 8 0))] [(0, gB0), (1, gB1), (2, gB2), (3, (.var [(.dat (.sl 1 (s_31.map elB)))])), (8, (.var [(.dat (I v_33)), (.dat (I 0)), (.dat (.str ([] : List UInt8))), (.dat nilS), (.dat nilS)]))])) (fun (v_33 : Int) => g__codec_reader_value_s_j4 depth_2 rc s_31 v_33 = some r) (fun v_33 h => ?_) ?_
  refine T_seq (T_parts ?_)
  refine TL_part 3 [] (mk 118 [(0, (rf 3 0)), (1, (di depth_2)), (4, (rf 8 0)), (52, (rf 3 0)), (53, (di depth_2)), (54, (db (depth_2 == 16)))] [(0, gB0), (1, gB1), (2, gB2), (3, (.var [(.dat (.sl 1 (s_31.map elB)))])), (8, (.var [(.dat (I v_33)), (.dat (I 0)), (.dat (.str ([] : List UInt8))), (.dat nilS), (.dat nilS)]))]) _ (by kernel_rfl) (z6 zt) rfl ?_
  refine TL_inlineP 122 33 [] Tryd.f33 _ rfl rfl (by kernel_rfl) Tryd.func33 rfl rfl (by decide) ?_
  refine T_turn [] [0, 1] [] (mk 6 [(0, (rf 3 0)), (1, (db (depth_2 == 16)))] [(0, gB0), (1, gB1), (2, gB2), (3, (.var [(.dat (.sl 1 (s_31.map elB)))])), (8, (.var [(.dat (I v_33)), (.dat (I 0)), (.dat (.str ([] : List UInt8))), (.dat nilS), (.dat nilS)]))]) (by kernel_rfl) ?_
  refine T_reg [] [4] [] (mk 6 [(4, (db (depth_2 == 16)))] [(0, gB0), (1, gB1), (2, gB2), (3, (.var [(.dat (.sl 1 (s_31.map elB)))])), (8, (.var [(.dat (I v_33)), (.dat (I 0)), (.dat (.str ([] : List UInt8))), (.dat nilS), (.dat nilS)]))]) _ (by kernel_rfl) (z2 zt) ?_
  refine T_cond (depth_2 == 16) (by kernel_rfl) (fun b34 => ?_) (fun b34 => ?_)
  replace h := ite_t b34 h
  refine T_parts ?_
  refine TL_part 1 [] (mk 6 [(4, (db (depth_2 == 16))), (5, (dt (.iface 29 (I 20))))] [(0, gB0), (1, gB1), (2, gB2), (3, (.var [(.dat (.sl 1 (s_31.map elB)))])), (8, (.var [(.dat (I v_33)), (.dat (I 0)), (.dat (.str ([] : List UInt8))), (.dat nilS), (.dat nilS)]))]) _ (by kernel_rfl) (z2 zt) rfl ?_
  refine TL_panic 29 (I 20) rfl rfl (by kernel_rfl) ?_
  obtain rfl := some_inv h
  exact (show _ ∧ _ from ⟨rfl, (show _ ∧ _ from ⟨rfl, ⟨_, rfl, lk3 (by kernel_rfl) (by kernel_rfl) (by kernel_rfl)⟩⟩)⟩)
  replace h := ite_f b34 h
  refine T_skip ?_
  refine ⟨[], by kernel_rfl, ?_⟩
  refine TL_turn [] [0, 1, 4, 55] [] (mk 118 [(0, (rf 3 0)), (1, (di depth_2)), (4, (rf 8 0)), (55, (.tup []))] [(0, gB0), (1, gB1), (2, gB2), (3, (.var [(.dat (.sl 1 (s_31.map elB)))])), (8, (.var [(.dat (I v_33)), (.dat (I 0)), (.dat (.str ([] : List UInt8))), (.dat nilS), (.dat nilS)]))]) (by kernel_rfl) ?_
  refine TL_nilQ ?_
  refine T_turn [] [0, 1, 4] [] (mk 118 [(0, (rf 3 0)), (1, (di depth_2)), (4, (rf 8 0))] [(0, gB0), (1, gB1), (2, gB2), (3, (.var [(.dat (.sl 1 (s_31.map elB)))])), (8, (.var [(.dat (I v_33)), (.dat (I 0)), (.dat (.str ([] : List UInt8))), (.dat nilS), (.dat nilS)]))]) (by kernel_rfl) ?_
  refine T_block ?_
  refine T_arr [.ownC 8 3 120 25 5, .ownC 8 4 111 9 1] [0, 1, 4] [] [0, 1, 2, 3, 8, 111, 120] _ (by kernel_rfl) (T_loopO (σ := (List UInt8) × (List Val) × (List (List UInt8))) (fun ((v_35, l_36, l_37) : (List UInt8) × (List Val) × (List (List UInt8))) => (mk 118 [(0, (rf 3 0)), (1, (di depth_2)), (4, (rf 8 0))] [(0, gB0), (1, gB1), (2, gB2), (3, (.var [(.dat (.sl 1 (v_35.map elB)))])), (8, (.var [(.dat (I v_33)), (.dat (I 0)), (.dat (.str ([] : List UInt8))), (.own 120), (.own 111)])), (111, (.row 9 1 (l_37.map elStr))), (120, (.row 25 5 (l_36.map encVal)))])) (g__codec_reader_value_s_l5 v_33 depth_2 rc) (s_31, ([] : List Val), ([] : List (List UInt8))) h (fun v y1 hy1 h => ?_))
  obtain ⟨v_35, l_36, l_37⟩ := v
  refine T_block ?_
  refine T_seq (T_parts ?_)
  refine TL_part 7 (hl 6 [(5, (zd (I ((v_35.length : Nat) : Int))))]) (mk 118 [(0, (rf 3 0)), (1, (di depth_2)), (4, (rf 8 0)), (56, (rf 3 0)), (57, (rf 3 0)), (58, (rf 3 0)), (59, (rf 3 0)), (60, (dt (.sl 1 (v_35.map elB)))), (61, (di ((v_35.length : Nat) : Int))), (62, (db (((v_35.length : Nat) : Int) == 0)))] [(0, gB0), (1, gB1), (2, gB2), (3, (.var [(.dat (.sl 1 (v_35.map elB)))])), (8, (.var [(.dat (I v_33)), (.dat (I 0)), (.dat (.str ([] : List UInt8))), (.own 120), (.own 111)])), (111, (.row 9 1 (l_37.map elStr))), (120, (.row 25 5 (l_36.map encVal)))]) _ (by kernel_rfl) (z8 (z3 (zc (len_s elB v_35) (z2 zt)))) rfl ?_
  refine TL_inlineP 122 33 [] Tryd.f33 _ rfl rfl (by kernel_rfl) Tryd.func33 rfl rfl (by decide) ?_
  refine T_turn [] [0, 1] [] (mk 6 [(0, (rf 3 0)), (1, (db (((v_35.length : Nat) : Int) == 0)))] [(0, gB0), (1, gB1), (2, gB2), (3, (.var [(.dat (.sl 1 (v_35.map elB)))])), (8, (.var [(.dat (I v_33)), (.dat (I 0)), (.dat (.str ([] : List UInt8))), (.own 120), (.own 111)])), (111, (.row 9 1 (l_37.map elStr))), (120, (.row 25 5 (l_36.map encVal)))]) (by kernel_rfl) ?_
  refine T_reg [] [4] [] (mk 6 [(4, (db (((v_35.length : Nat) : Int) == 0)))] [(0, gB0), (1, gB1), (2, gB2), (3, (.var [(.dat (.sl 1 (v_35.map elB)))])), (8, (.var [(.dat (I v_33)), (.dat (I 0)), (.dat (.str ([] : List UInt8))), (.own 120), (.own 111)])), (111, (.row 9 1 (l_37.map elStr))), (120, (.row 25 5 (l_36.map encVal)))]) _ (by kernel_rfl) (z2 zt) ?_
  refine T_cond (((v_35.length : Nat) : Int) == 0) (by kernel_rfl) (fun b41 => ?_) (fun b41 => ?_)
  replace h := ite_t b41 h
  refine T_parts ?_
  refine TL_part 1 [] (mk 6 [(4, (db (((v_35.length : Nat) : Int) == 0))), (5, (dt (.iface 29 (I 20))))] [(0, gB0), (1, gB1), (2, gB2), (3, (.var [(.dat (.sl 1 (v_35.map elB)))])), (8, (.var [(.dat (I v_33)), (.dat (I 0)), (.dat (.str ([] : List UInt8))), (.own 120), (.own 111)])), (111, (.row 9 1 (l_37.map elStr))), (120, (.row 25 5 (l_36.map encVal)))]) _ (by kernel_rfl) (z2 zt) rfl ?_
  refine TL_panic 29 (I 20) rfl rfl (by kernel_rfl) ?_
  replace h := up_inv h hy1
  obtain rfl := some_inv h
  exact (show _ ∧ _ from ⟨rfl, (show _ ∧ _ from ⟨rfl, ⟨_, rfl, lk3 (by kernel_rfl) (by kernel_rfl) (by kernel_rfl)⟩⟩)⟩)
  replace h := ite_f b41 h
  refine T_skip ?_
  refine ⟨[], by kernel_rfl, ?_⟩
  refine TL_turn [] [0, 1, 4, 63] [] (mk 118 [(0, (rf 3 0)), (1, (di depth_2)), (4, (rf 8 0)), (63, (.tup []))] [(0, gB0), (1, gB1), (2, gB2), (3, (.var [(.dat (.sl 1 (v_35.map elB)))])), (8, (.var [(.dat (I v_33)), (.dat (I 0)), (.dat (.str ([] : List UInt8))), (.own 120), (.own 111)])), (111, (.row 9 1 (l_37.map elStr))), (120, (.row 25 5 (l_36.map encVal)))]) (by kernel_rfl) ?_
  refine TL_nilQ ?_
  refine T_turn [] [0, 1, 4] [] (mk 118 [(0, (rf 3 0)), (1, (di depth_2)), (4, (rf 8 0))] [(0, gB0), (1, gB1), (2, gB2), (3, (.var [(.dat (.sl 1 (v_35.map elB)))])), (8, (.var [(.dat (I v_33)), (.dat (I 0)), (.dat (.str ([] : List UInt8))), (.own 120), (.own 111)])), (111, (.row 9 1 (l_37.map elStr))), (120, (.row 25 5 (l_36.map encVal)))]) (by kernel_rfl) ?_
  refine T_seq ?_
  obtain ⟨x_42, e43, e44, e45, h⟩ := gn_inv elB h
  refine T_reg (hl 5 [(4, (zd (.int .u8 ((x_42.toNat : Nat) : Int))))]) [0, 1, 4, 70] [] (mk 118 [(0, (rf 3 0)), (1, (di depth_2)), (4, (rf 8 0)), (70, (db (((x_42.toNat : Nat) : Int) == 101)))] [(0, gB0), (1, gB1), (2, gB2), (3, (.var [(.dat (.sl 1 (v_35.map elB)))])), (8, (.var [(.dat (I v_33)), (.dat (I 0)), (.dat (.str ([] : List UInt8))), (.own 120), (.own 111)])), (111, (.row 9 1 (l_37.map elStr))), (120, (.row 25 5 (l_36.map encVal)))]) _ (by kernel_rfl) (z8 (z1 (zc e43 (z4 zt)))) ?_
  refine T_cond (((x_42.toNat : Nat) : Int) == 101) (by kernel_rfl) (fun b46 => ?_) (fun b46 => ?_)
  replace h := ite_t b46 h
  obtain ⟨s_47, e48, h⟩ := sb_inv 1 elB h
  refine T_reg (hl 6 [(5, (zd (.sl 1 (s_47.map elB))))]) [4] [] (mk 118 [(4, (rf 8 0))] [(0, gB0), (1, gB1), (2, gB2), (3, (.var [(.dat (.sl 1 (s_47.map elB)))])), (8, (.var [(.dat (I v_33)), (.dat (I 0)), (.dat (.str ([] : List UInt8))), (.own 120), (.own 111)])), (111, (.row 9 1 (l_37.map elStr))), (120, (.row 25 5 (l_36.map encVal)))]) _ (by kernel_rfl) (z8 (z3 (zc e48 (z6 zt)))) ?_
  refine T_reg [] [4] [] (mk 118 [(4, (rf 8 0))] [(0, gB0), (1, gB1), (2, gB2), (3, (.var [(.dat (.sl 1 (s_47.map elB)))])), (8, (.var [(.dat (I v_33)), (.dat (I 0)), (.dat (.str ([] : List UInt8))), (.own 120), (.own 111)])), (111, (.row 9 1 (l_37.map elStr))), (120, (.row 25 5 (l_36.map encVal)))]) _ (by kernel_rfl) (z4 zt) ?_
  refine T_arr [.ice 111, .ice 120, .ice 8] [4] [8, 111, 120] [0, 1, 2, 3] (mk 118 [(4, (dt (.ptr [(I v_33), (I 0), (.str ([] : List UInt8)), (.sl 5 (l_36.map encVal)), (.sl 1 (l_37.map elStr))])))] [(0, gB0), (1, gB1), (2, gB2), (3, (.var [(.dat (.sl 1 (s_47.map elB)))]))]) (by kernel_rfl) ?_
  refine T_ret ?_
  replace h := up_inv h hy1
  obtain rfl := some_inv h
  exact ⟨[(.agg [(.dat (I v_33)), (.dat (I 0)), (.dat (.str ([] : List UInt8))), (.dat (.sl 5 (l_36.map encVal))), (.dat (.sl 1 (l_37.map elStr)))])], by kernel_rfl, rfl⟩
  replace h := ite_f b46 h
  refine T_skip ?_
  refine T_seqJ (α := (List UInt8) × (List (List UInt8))) (fun ((v_49, l_50) : (List UInt8) × (List (List UInt8))) => (mk 118 [(0, (rf 3 0)), (1, (di depth_2)), (4, (rf 8 0))] [(0, gB0), (1, gB1), (2, gB2), (3, (.var [(.dat (.sl 1 (v_49.map elB)))])), (8, (.var [(.dat (I v_33)), (.dat (I 0)), (.dat (.str ([] : List UInt8))), (.own 120), (.own 111)])), (111, (.row 9 1 (l_50.map elStr))), (120, (.row 25 5 (l_36.map encVal)))])) (fun ((v_49, l_50) : (List UInt8) × (List (List UInt8))) => g__codec_reader_value_s_j6 depth_2 rc l_36 v_33 v_49 l_50 = some y1) (fun v h => ?_) ?_
  obtain ⟨v_49, l_50⟩ := v
  refine T_arr [] [0, 1, 4] [] [0, 1, 2, 3, 8, 111, 120] (mk 118 [(0, (rf 3 0)), (1, (di depth_2)), (4, (rf 8 0))] [(0, gB0), (1, gB1), (2, gB2), (3, (.var [(.dat (.sl 1 (v_49.map elB)))])), (8, (.var [(.dat (I v_33)), (.dat (I 0)), (.dat (.str ([] : List UInt8))), (.own 120), (.own 111)])), (111, (.row 9 1 (l_50.map elStr))), (120, (.row 25 5 (l_36.map encVal)))]) (by kernel_rfl) ?_
  obtain ⟨c51, h⟩ := ckI_inv h
  obtain ⟨y53, e54, hk55, hz56⟩ := bdP_inv h
  rcases y53 with r_52 | u
  replace h := hk55 _ rfl
  obtain ⟨c57, h⟩ := ck_inv h
  refine T_stC [{}, {}, {}, {}, { h := zd (I (depth_2 + 1)) }, {}, {}, { h := zd (.sl 5 ((l_36 ++ [r_52.1]).map encVal)) }, {}, {}] _ [(0, 109, (rf 8 3)), (1, 110, (ow 120)), (2, 111, (rf 3 0)), (3, 112, (di depth_2)), (4, 113, (di (depth_2 + 1))), (5, 114, (.agg (qVal r_52.1))), (6, 115, (ow 119)), (7, 110, J), (7, 116, (ow 120)), (8, 117, (rf 8 3))] [(5, 3, some (.var [(.dat (.sl 1 (r_52.2.rest.map elB)))])), (6, 119, some (.row 25 5 [ndcVal r_52.1])), (7, 8, some (.var [(.dat (I v_33)), (.dat (I 0)), (.dat (.str ([] : List UInt8))), .junk, (.own 111)])), (7, 120, some (.row 25 5 ((l_36 ++ [r_52.1]).map encVal))), (9, 8, some (.var [(.dat (I v_33)), (.dat (I 0)), (.dat (.str ([] : List UInt8))), (.own 120), (.own 111)]))] [0, 1, 2, 3, 8, 111, 119, 120] 10 [0, 1, 0, 0, 8, 28, 60, 127, 255, 511] 736 [0, 32, 96, 224, 736] [5] none (by kernel_rfl) (by decide) (by kernel_rfl) (by kernel_rfl) (by kernel_rfl) (by kernel_rfl) (by kernel_rfl) (by kernel_rfl) (by kernel_rfl) (zs zt (zs zt (zs zt (zs zt (zs c51 (zs zt (zs (zc zt (show dfill (fun i => some (i * 5, 5)) (List.replicate (1 * 5) .junk) [(0, [(.dat (I r_52.1.k)), (.dat (I r_52.1.n)), (.dat (.str r_52.1.s)), (.dat (.sl 5 (r_52.1.l.map encVal))), (.dat (.sl 1 (r_52.1.ks.map elStr)))])] = some ((flat [ndcVal r_52.1]).map .dat) from rfl)) (zs (zc zt (app_sE encVal ndcVal encVal_nd encVal_one l_36 r_52.1 c57)) (zs zt (zs (zc zt zt) zS)))))))))) ?_ (fun _ => ?_)
  intro c hc; simp only [List.mem_cons, List.not_mem_nil, or_false] at hc; rcases hc with rfl
  exact ⟨_, rfl, callU (hand := [0, 1, 2, 3]) (nb := 100004) [] (hrc e54) [0, 1, 2, 3, 8, 111, 119, 120] (by decide) rfl rfl 5 _ _ _ (by kernel_rfl) (by kernel_rfl) (by kernel_rfl) (by kernel_rfl) (by kernel_rfl) (by kernel_rfl)⟩
  exact Exists.intro (r_52.2.rest, (l_36 ++ [r_52.1]), l_50) (And.intro h (arr [] [0, 1, 4] [119] [0, 1, 2, 3, 8, 111, 120] (by kernel_rfl)))
  replace h := hz56 rfl
  replace h := up_inv h hy1
  obtain rfl := some_inv h
  refine T_stC [{}, {}, {}, {}, { h := zd (I (depth_2 + 1)) }, {}, {}, {}, {}, {}] _ [(0, 109, (rf 8 3)), (1, 110, (ow 120)), (2, 111, (rf 3 0)), (3, 112, (di depth_2)), (4, 113, (di (depth_2 + 1)))] [] [0, 1, 2, 3, 8, 111, 120] 10 [0, 1, 0, 0, 8, 28, 60, 127, 255, 511] 992 [0] [5] (some 5) (by kernel_rfl) (by decide) (by kernel_rfl) (by kernel_rfl) (by kernel_rfl) (by kernel_rfl) (by kernel_rfl) (by kernel_rfl) (by kernel_rfl) (zs zt (zs zt (zs zt (zs zt (zs c51 (zs zt (zs zt (zs zt (zs zt (zs zt zS)))))))))) ?_ (fun h => absurd h (by decide))
  intro c hc; simp only [List.mem_cons, List.not_mem_nil, or_false] at hc; rcases hc with rfl
  refine ⟨_, rfl, callP (hand := [0, 1, 2, 3]) (nb := 100004) [] (hrc e54) rfl rfl 5 _ _ _ (by kernel_rfl) (by kernel_rfl) (by kernel_rfl) (by kernel_rfl) (fun _ _ hlk => ?_)⟩
  exact (show _ ∧ _ from ⟨rfl, ⟨_, rfl, lk3 ((after_lk (by kernel_rfl) rfl).trans (by rw [hlk 0 (by decide)]; kernel_rfl)) ((after_lk (by kernel_rfl) rfl).trans (by rw [hlk 1 (by decide)]; kernel_rfl)) ((after_lk (by kernel_rfl) rfl).trans (by rw [hlk 2 (by decide)]; kernel_rfl))⟩⟩)
  refine T_reg [] [0, 1, 4, 82] [] (mk 118 [(0, (rf 3 0)), (1, (di depth_2)), (4, (rf 8 0)), (82, (db (v_33 == 4)))] [(0, gB0), (1, gB1), (2, gB2), (3, (.var [(.dat (.sl 1 (v_35.map elB)))])), (8, (.var [(.dat (I v_33)), (.dat (I 0)), (.dat (.str ([] : List UInt8))), (.own 120), (.own 111)])), (111, (.row 9 1 (l_37.map elStr))), (120, (.row 25 5 (l_36.map encVal)))]) _ (by kernel_rfl) (z6 zt) ?_
  refine T_cond (v_33 == 4) (by kernel_rfl) (fun b58 => ?_) (fun b58 => ?_)
  replace h := ite_t b58 h
  refine T_seq (T_parts ?_)
  refine TL_part 1 [] (mk 118 [(0, (rf 3 0)), (1, (di depth_2)), (4, (rf 8 0)), (82, (db (v_33 == 4))), (83, (rf 3 0))] [(0, gB0), (1, gB1), (2, gB2), (3, (.var [(.dat (.sl 1 (v_35.map elB)))])), (8, (.var [(.dat (I v_33)), (.dat (I 0)), (.dat (.str ([] : List UInt8))), (.own 120), (.own 111)])), (111, (.row 9 1 (l_37.map elStr))), (120, (.row 25 5 (l_36.map encVal)))]) _ (by kernel_rfl) (z2 zt) rfl ?_
  refine TL_inlineP 122 49 [] Tryd.f49 _ rfl rfl (by kernel_rfl) Tryd.func49 rfl rfl (by decide) ?_
  refine T_turn [] [0] [] (mk 38 [(0, (rf 3 0))] [(0, gB0), (1, gB1), (2, gB2), (3, (.var [(.dat (.sl 1 (v_35.map elB)))])), (8, (.var [(.dat (I v_33)), (.dat (I 0)), (.dat (.str ([] : List UInt8))), (.own 120), (.own 111)])), (111, (.row 9 1 (l_37.map elStr))), (120, (.row 25 5 (l_36.map encVal)))]) (by kernel_rfl) ?_
  refine T_reg [] [0] [] (mk 38 [(0, (rf 3 0))] [(0, gB0), (1, gB1), (2, gB2), (3, (.var [(.dat (.sl 1 (v_35.map elB)))])), (8, (.var [(.dat (I v_33)), (.dat (I 0)), (.dat (.str ([] : List UInt8))), (.own 120), (.own 111)])), (111, (.row 9 1 (l_37.map elStr))), (120, (.row 25 5 (l_36.map encVal)))]) _ (by kernel_rfl) (z2 zt) ?_
  refine T_seq (T_parts ?_)
  refine TL_part 1 [] (mk 38 [(0, (rf 3 0)), (5, (rf 3 0))] [(0, gB0), (1, gB1), (2, gB2), (3, (.var [(.dat (.sl 1 (v_35.map elB)))])), (8, (.var [(.dat (I v_33)), (.dat (I 0)), (.dat (.str ([] : List UInt8))), (.own 120), (.own 111)])), (111, (.row 9 1 (l_37.map elStr))), (120, (.row 25 5 (l_36.map encVal)))]) _ (by kernel_rfl) (z2 zt) rfl ?_
  refine TL_inlineP 160 50 [] Tryd.f50 _ rfl rfl (by kernel_rfl) Tryd.func50 rfl rfl (by decide) ?_
  refine T_turn [] [0, 1] [] (mk 27 [(0, (rf 3 0)), (1, (dt (.int .u8 58)))] [(0, gB0), (1, gB1), (2, gB2), (3, (.var [(.dat (.sl 1 (v_35.map elB)))])), (8, (.var [(.dat (I v_33)), (.dat (I 0)), (.dat (.str ([] : List UInt8))), (.own 120), (.own 111)])), (111, (.row 9 1 (l_37.map elStr))), (120, (.row 25 5 (l_36.map encVal)))]) (by kernel_rfl) ?_
  refine T_reg [] [0, 1] [] (mk 27 [(0, (rf 3 0)), (1, (dt (.int .u8 58)))] [(0, gB0), (1, gB1), (2, gB2), (3, (.var [(.dat (.sl 1 (v_35.map elB)))])), (8, (.var [(.dat (I v_33)), (.dat (I 0)), (.dat (.str ([] : List UInt8))), (.own 120), (.own 111)])), (111, (.row 9 1 (l_37.map elStr))), (120, (.row 25 5 (l_36.map encVal)))]) _ (by kernel_rfl) (z2 zt) ?_
  refine T_seq (T_parts ?_)
  refine TL_part 2 [] (mk 27 [(0, (rf 3 0)), (1, (dt (.int .u8 58))), (8, (rf 3 0)), (9, (dt (.int .u8 58)))] [(0, gB0), (1, gB1), (2, gB2), (3, (.var [(.dat (.sl 1 (v_35.map elB)))])), (8, (.var [(.dat (I v_33)), (.dat (I 0)), (.dat (.str ([] : List UInt8))), (.own 120), (.own 111)])), (111, (.row 9 1 (l_37.map elStr))), (120, (.row 25 5 (l_36.map encVal)))]) _ (by kernel_rfl) (z4 zt) rfl ?_
  refine TL_inlineP 187 56 [] Tryd.f56 _ rfl rfl (by kernel_rfl) Tryd.func56 rfl rfl (by decide) ?_
  refine T_turn [] [0, 1] [] (mk 40 [(0, (rf 3 0)), (1, (dt (.int .u8 58)))] [(0, gB0), (1, gB1), (2, gB2), (3, (.var [(.dat (.sl 1 (v_35.map elB)))])), (8, (.var [(.dat (I v_33)), (.dat (I 0)), (.dat (.str ([] : List UInt8))), (.own 120), (.own 111)])), (111, (.row 9 1 (l_37.map elStr))), (120, (.row 25 5 (l_36.map encVal)))]) (by kernel_rfl) ?_
  refine T_reg [] [0, 1] [] (mk 40 [(0, (rf 3 0)), (1, (dt (.int .u8 58)))] [(0, gB0), (1, gB1), (2, gB2), (3, (.var [(.dat (.sl 1 (v_35.map elB)))])), (8, (.var [(.dat (I v_33)), (.dat (I 0)), (.dat (.str ([] : List UInt8))), (.own 120), (.own 111)])), (111, (.row 9 1 (l_37.map elStr))), (120, (.row 25 5 (l_36.map encVal)))]) _ (by kernel_rfl) (z2 zt) ?_
  obtain ⟨r_59, e60, h⟩ := bd_inv h
  refine T_reg (hl 6 [(5, (zd (I r_59)))]) [0, 5] [] (mk 40 [(0, (rf 3 0)), (5, (di r_59))] [(0, gB0), (1, gB1), (2, gB2), (3, (.var [(.dat (.sl 1 (v_35.map elB)))])), (8, (.var [(.dat (I v_33)), (.dat (I 0)), (.dat (.str ([] : List UInt8))), (.own 120), (.own 111)])), (111, (.row 9 1 (l_37.map elStr))), (120, (.row 25 5 (l_36.map encVal)))]) _ (by kernel_rfl) (z8 (z3 (zc (g_slices_Index_Lbyte_byte_ret e60) (z2 zt)))) ?_
  rcases Bool.eq_false_or_eq_true (decide (r_59 < 0)) with b61 | b61
  replace h := ite_t b61 h
  refine T_seq (T_parts ?_)
  refine TL_part 7 [zn, zn, zn, zn, zg, zg, (zd (B true))] (mk 40 [(0, (rf 3 0)), (5, (di r_59)), (13, (rf 3 0)), (14, (di r_59)), (15, (db (decide (r_59 < 0)))), (16, (db (decide (r_59 < 0)))), (17, (dt (.tup []))), (18, (dt (.tup []))), (19, (db true))] [(0, gB0), (1, gB1), (2, gB2), (3, (.var [(.dat (.sl 1 (v_35.map elB)))])), (8, (.var [(.dat (I v_33)), (.dat (I 0)), (.dat (.str ([] : List UInt8))), (.own 120), (.own 111)])), (111, (.row 9 1 (l_37.map elStr))), (120, (.row 25 5 (l_36.map encVal)))]) _ (by kernel_rfl) (z8 (zc (gd_tf b61) (zc (gd_tf b61) (z1 (zc b61 zt))))) rfl ?_
  refine TL_inlineP 227 33 [] Tryd.f33 _ rfl rfl (by kernel_rfl) Tryd.func33 rfl rfl (by decide) ?_
  refine T_turn [] [0, 1] [] (mk 6 [(0, (rf 3 0)), (1, (db true))] [(0, gB0), (1, gB1), (2, gB2), (3, (.var [(.dat (.sl 1 (v_35.map elB)))])), (8, (.var [(.dat (I v_33)), (.dat (I 0)), (.dat (.str ([] : List UInt8))), (.own 120), (.own 111)])), (111, (.row 9 1 (l_37.map elStr))), (120, (.row 25 5 (l_36.map encVal)))]) (by kernel_rfl) ?_
  refine T_reg [] [4] [] (mk 6 [(4, (db true))] [(0, gB0), (1, gB1), (2, gB2), (3, (.var [(.dat (.sl 1 (v_35.map elB)))])), (8, (.var [(.dat (I v_33)), (.dat (I 0)), (.dat (.str ([] : List UInt8))), (.own 120), (.own 111)])), (111, (.row 9 1 (l_37.map elStr))), (120, (.row 25 5 (l_36.map encVal)))]) _ (by kernel_rfl) (z2 zt) ?_
  refine T_cond true (by kernel_rfl) (fun _ => ?_) (fun h => absurd (h.symm.trans (rfl : true = true)) (by decide))
  refine T_parts ?_
  refine TL_part 1 [] (mk 6 [(4, (db true)), (5, (dt (.iface 29 (I 20))))] [(0, gB0), (1, gB1), (2, gB2), (3, (.var [(.dat (.sl 1 (v_35.map elB)))])), (8, (.var [(.dat (I v_33)), (.dat (I 0)), (.dat (.str ([] : List UInt8))), (.own 120), (.own 111)])), (111, (.row 9 1 (l_37.map elStr))), (120, (.row 25 5 (l_36.map encVal)))]) _ (by kernel_rfl) (z2 zt) rfl ?_
  refine TL_panic 29 (I 20) rfl rfl (by kernel_rfl) ?_
  replace h := up_inv h hy1
  obtain rfl := some_inv h
  exact (show _ ∧ _ from ⟨rfl, (show _ ∧ _ from ⟨rfl, (show _ ∧ _ from ⟨rfl, (show _ ∧ _ from ⟨rfl, (show _ ∧ _ from ⟨rfl, ⟨_, rfl, lk3 (by kernel_rfl) (by kernel_rfl) (by kernel_rfl)⟩⟩)⟩)⟩)⟩)⟩)
  replace h := ite_f b61 h
  refine T_seq (T_parts ?_)
  refine TL_part 7 (hl 7 [(6, (zd (B false)))]) (mk 40 [(0, (rf 3 0)), (5, (di r_59)), (13, (rf 3 0)), (14, (di r_59)), (15, (db (decide (r_59 < 0)))), (16, (db (decide (r_59 < 0)))), (17, (di r_59)), (18, (db (decide (r_59 > 20)))), (19, (db (decide (r_59 > 20))))] [(0, gB0), (1, gB1), (2, gB2), (3, (.var [(.dat (.sl 1 (v_35.map elB)))])), (8, (.var [(.dat (I v_33)), (.dat (I 0)), (.dat (.str ([] : List UInt8))), (.own 120), (.own 111)])), (111, (.row 9 1 (l_37.map elStr))), (120, (.row 25 5 (l_36.map encVal)))]) _ (by kernel_rfl) (z8 (zc (gd_ff b61) (z1 (zc (gd_ff b61) (z2 (zc b61 zt)))))) rfl ?_
  refine TL_inlineP 227 33 [] Tryd.f33 _ rfl rfl (by kernel_rfl) Tryd.func33 rfl rfl (by decide) ?_
  refine T_turn [] [0, 1] [] (mk 6 [(0, (rf 3 0)), (1, (db (decide (r_59 > 20))))] [(0, gB0), (1, gB1), (2, gB2), (3, (.var [(.dat (.sl 1 (v_35.map elB)))])), (8, (.var [(.dat (I v_33)), (.dat (I 0)), (.dat (.str ([] : List UInt8))), (.own 120), (.own 111)])), (111, (.row 9 1 (l_37.map elStr))), (120, (.row 25 5 (l_36.map encVal)))]) (by kernel_rfl) ?_
  refine T_reg [] [4] [] (mk 6 [(4, (db (decide (r_59 > 20))))] [(0, gB0), (1, gB1), (2, gB2), (3, (.var [(.dat (.sl 1 (v_35.map elB)))])), (8, (.var [(.dat (I v_33)), (.dat (I 0)), (.dat (.str ([] : List UInt8))), (.own 120), (.own 111)])), (111, (.row 9 1 (l_37.map elStr))), (120, (.row 25 5 (l_36.map encVal)))]) _ (by kernel_rfl) (z2 zt) ?_
  refine T_cond (decide (r_59 > 20)) (by kernel_rfl) (fun b62 => ?_) (fun b62 => ?_)
  replace h := ite_t b62 h
  refine T_parts ?_
  refine TL_part 1 [] (mk 6 [(4, (db (decide (r_59 > 20)))), (5, (dt (.iface 29 (I 20))))] [(0, gB0), (1, gB1), (2, gB2), (3, (.var [(.dat (.sl 1 (v_35.map elB)))])), (8, (.var [(.dat (I v_33)), (.dat (I 0)), (.dat (.str ([] : List UInt8))), (.own 120), (.own 111)])), (111, (.row 9 1 (l_37.map elStr))), (120, (.row 25 5 (l_36.map encVal)))]) _ (by kernel_rfl) (z2 zt) rfl ?_
  refine TL_panic 29 (I 20) rfl rfl (by kernel_rfl) ?_
  replace h := up_inv h hy1
  obtain rfl := some_inv h
  exact (show _ ∧ _ from ⟨rfl, (show _ ∧ _ from ⟨rfl, (show _ ∧ _ from ⟨rfl, (show _ ∧ _ from ⟨rfl, (show _ ∧ _ from ⟨rfl, ⟨_, rfl, lk3 (by kernel_rfl) (by kernel_rfl) (by kernel_rfl)⟩⟩)⟩)⟩)⟩)⟩)
  replace h := ite_f b62 h
  refine T_skip ?_
  refine ⟨[], by kernel_rfl, ?_⟩
  refine TL_turn [] [0, 5, 20] [] (mk 40 [(0, (rf 3 0)), (5, (di r_59)), (20, (.tup []))] [(0, gB0), (1, gB1), (2, gB2), (3, (.var [(.dat (.sl 1 (v_35.map elB)))])), (8, (.var [(.dat (I v_33)), (.dat (I 0)), (.dat (.str ([] : List UInt8))), (.own 120), (.own 111)])), (111, (.row 9 1 (l_37.map elStr))), (120, (.row 25 5 (l_36.map encVal)))]) (by kernel_rfl) ?_
  refine TL_nilQ ?_
  refine T_turn [] [0, 5] [] (mk 40 [(0, (rf 3 0)), (5, (di r_59))] [(0, gB0), (1, gB1), (2, gB2), (3, (.var [(.dat (.sl 1 (v_35.map elB)))])), (8, (.var [(.dat (I v_33)), (.dat (I 0)), (.dat (.str ([] : List UInt8))), (.own 120), (.own 111)])), (111, (.row 9 1 (l_37.map elStr))), (120, (.row 25 5 (l_36.map encVal)))]) (by kernel_rfl) ?_
  obtain ⟨s_63, e64, h⟩ := sbm_inv 1 elB h
  refine T_reg (hl 7 [(6, (zd (.sl 1 (s_63.map elB))))]) [0, 5, 6] [] (mk 40 [(0, (rf 3 0)), (5, (di r_59)), (6, (dt (.sl 1 (s_63.map elB))))] [(0, gB0), (1, gB1), (2, gB2), (3, (.var [(.dat (.sl 1 (v_35.map elB)))])), (8, (.var [(.dat (I v_33)), (.dat (I 0)), (.dat (.str ([] : List UInt8))), (.own 120), (.own 111)])), (111, (.row 9 1 (l_37.map elStr))), (120, (.row 25 5 (l_36.map encVal)))]) _ (by kernel_rfl) (z8 (z5 (zc e64 (z2 zt)))) ?_
  obtain ⟨c65, h⟩ := ckI_inv h
  obtain ⟨s_66, e67, h⟩ := sb_inv 1 elB h
  refine T_reg (hl 8 [(6, (zd (I (r_59 + 1)))), (7, (zd (.sl 1 (s_66.map elB))))]) [6] [] (mk 40 [(6, (dt (.sl 1 (s_63.map elB))))] [(0, gB0), (1, gB1), (2, gB2), (3, (.var [(.dat (.sl 1 (s_66.map elB)))])), (8, (.var [(.dat (I v_33)), (.dat (I 0)), (.dat (.str ([] : List UInt8))), (.own 120), (.own 111)])), (111, (.row 9 1 (l_37.map elStr))), (120, (.row 25 5 (l_36.map encVal)))]) _ (by kernel_rfl) (z8 (z5 (zc c65 (z1 (zc e67 (z6 zt)))))) ?_
  refine T_reg [zn, (zd (.str s_63))] [4] [] (mk 40 [(4, (dt (.str s_63)))] [(0, gB0), (1, gB1), (2, gB2), (3, (.var [(.dat (.sl 1 (s_66.map elB)))])), (8, (.var [(.dat (I v_33)), (.dat (I 0)), (.dat (.str ([] : List UInt8))), (.own 120), (.own 111)])), (111, (.row 9 1 (l_37.map elStr))), (120, (.row 25 5 (l_36.map encVal)))]) _ (by kernel_rfl) (z3 (zc (rfl : s_63.map elB = s_63.map elB) (z2 zt))) ?_
  refine T_ret ?_
  refine ⟨[(dt (.str s_63))], by kernel_rfl, ?_⟩
  refine TL_turn [] [0, 10] [] (mk 27 [(0, (rf 3 0)), (10, (dt (.str s_63)))] [(0, gB0), (1, gB1), (2, gB2), (3, (.var [(.dat (.sl 1 (s_66.map elB)))])), (8, (.var [(.dat (I v_33)), (.dat (I 0)), (.dat (.str ([] : List UInt8))), (.own 120), (.own 111)])), (111, (.row 9 1 (l_37.map elStr))), (120, (.row 25 5 (l_36.map encVal)))]) (by kernel_rfl) ?_
  refine TL_part 1 [] (mk 27 [(0, (rf 3 0)), (5, (dt (.str s_63))), (10, (dt (.str s_63)))] [(0, gB0), (1, gB1), (2, gB2), (3, (.var [(.dat (.sl 1 (s_66.map elB)))])), (8, (.var [(.dat (I v_33)), (.dat (I 0)), (.dat (.str ([] : List UInt8))), (.own 120), (.own 111)])), (111, (.row 9 1 (l_37.map elStr))), (120, (.row 25 5 (l_36.map encVal)))]) _ (by kernel_rfl) (z2 zt) rfl ?_
  refine TL_nilQ ?_
  refine T_turn [] [0, 5] [] (mk 27 [(0, (rf 3 0)), (5, (dt (.str s_63)))] [(0, gB0), (1, gB1), (2, gB2), (3, (.var [(.dat (.sl 1 (s_66.map elB)))])), (8, (.var [(.dat (I v_33)), (.dat (I 0)), (.dat (.str ([] : List UInt8))), (.own 120), (.own 111)])), (111, (.row 9 1 (l_37.map elStr))), (120, (.row 25 5 (l_36.map encVal)))]) (by kernel_rfl) ?_
  refine T_seqJ (α := (Int) ⊕ (Unit)) (fun v => match v with | (.inl n_68) => (mk 27 [(0, (rf 3 0)), (5, (dt (.str s_63))), (6, (di n_68)), (7, (dt (.con .nilIface)))] [(0, gB0), (1, gB1), (2, gB2), (3, (.var [(.dat (.sl 1 (s_66.map elB)))])), (8, (.var [(.dat (I v_33)), (.dat (I 0)), (.dat (.str ([] : List UInt8))), (.own 120), (.own 111)])), (111, (.row 9 1 (l_37.map elStr))), (120, (.row 25 5 (l_36.map encVal)))]) | (.inr _) => (mk 27 [(0, (rf 3 0)), (5, (dt (.str s_63))), (6, (dt .any)), (7, (dt (.iface 100 .any)))] [(0, gB0), (1, gB1), (2, gB2), (3, (.var [(.dat (.sl 1 (s_66.map elB)))])), (8, (.var [(.dat (I v_33)), (.dat (I 0)), (.dat (.str ([] : List UInt8))), (.own 120), (.own 111)])), (111, (.row 9 1 (l_37.map elStr))), (120, (.row 25 5 (l_36.map encVal)))])) (fun v => match v with | (.inl n_68) => g__codec_reader_value_s_j7 s_63 s_66 l_37 depth_2 rc l_36 v_33 n_68 = some y1 | (.inr _) => g__codec_reader_value_s_j8 s_63 s_66 v_33 l_37 l_36 = some y1) (fun v h => ?_) ?_
  rcases v with v | v
  revert h; revert v; intro n_68 h
  refine T_seq (T_parts ?_)
  refine TL_part 2 [] (mk 27 [(0, (rf 3 0)), (5, (dt (.str s_63))), (6, (di n_68)), (7, (dt (.con .nilIface))), (16, (rf 3 0)), (17, (dt (.con .nilIface)))] [(0, gB0), (1, gB1), (2, gB2), (3, (.var [(.dat (.sl 1 (s_66.map elB)))])), (8, (.var [(.dat (I v_33)), (.dat (I 0)), (.dat (.str ([] : List UInt8))), (.own 120), (.own 111)])), (111, (.row 9 1 (l_37.map elStr))), (120, (.row 25 5 (l_36.map encVal)))]) _ (by kernel_rfl) (z4 zt) rfl ?_
  refine TL_neNil 84 84 18 false rfl rfl rfl (by kernel_rfl) (.inr ⟨rfl, by kernel_rfl⟩) ?_
  refine TL_turn [] [5, 6, 16, 18] [] (mk 27 [(5, (dt (.str s_63))), (6, (di n_68)), (16, (rf 3 0)), (18, (db false))] [(0, gB0), (1, gB1), (2, gB2), (3, (.var [(.dat (.sl 1 (s_66.map elB)))])), (8, (.var [(.dat (I v_33)), (.dat (I 0)), (.dat (.str ([] : List UInt8))), (.own 120), (.own 111)])), (111, (.row 9 1 (l_37.map elStr))), (120, (.row 25 5 (l_36.map encVal)))]) (by kernel_rfl) ?_
  refine TL_part 2 [] (mk 27 [(5, (dt (.str s_63))), (6, (di n_68)), (16, (rf 3 0)), (18, (db false)), (19, (db false)), (20, (di n_68))] [(0, gB0), (1, gB1), (2, gB2), (3, (.var [(.dat (.sl 1 (s_66.map elB)))])), (8, (.var [(.dat (I v_33)), (.dat (I 0)), (.dat (.str ([] : List UInt8))), (.own 120), (.own 111)])), (111, (.row 9 1 (l_37.map elStr))), (120, (.row 25 5 (l_36.map encVal)))]) _ (by kernel_rfl) (z2 (zc (gd_ff (rfl : false = false)) (z1 zt))) rfl ?_
  refine TL_guard (p := (false == false) = true) (by kernel_rfl) (gd_ff (rfl : false = false)) ?_
  obtain ⟨c69, h⟩ := ckI_in h
  refine TL_fmtInt Tryd.lformat 21 0 n_68 rfl rfl rfl (by kernel_rfl) (by kernel_rfl) (by kernel_rfl) c69 (by kernel_rfl) ?_
  refine TL_turn [] [5, 6, 16, 19, 21] [] (mk 27 [(5, (dt (.str s_63))), (6, (di n_68)), (16, (rf 3 0)), (19, (db false)), (21, (dt (.str (Lib.itoa n_68))))] [(0, gB0), (1, gB1), (2, gB2), (3, (.var [(.dat (.sl 1 (s_66.map elB)))])), (8, (.var [(.dat (I v_33)), (.dat (I 0)), (.dat (.str ([] : List UInt8))), (.own 120), (.own 111)])), (111, (.row 9 1 (l_37.map elStr))), (120, (.row 25 5 (l_36.map encVal)))]) (by kernel_rfl) ?_
  refine TL_part 3 [zn, zn, (zd (B false))] (mk 27 [(5, (dt (.str s_63))), (6, (di n_68)), (16, (rf 3 0)), (19, (db false)), (21, (dt (.str (Lib.itoa n_68)))), (22, (dt (.str s_63))), (23, (db (!((Lib.itoa n_68) == s_63)))), (24, (db (!((Lib.itoa n_68) == s_63))))] [(0, gB0), (1, gB1), (2, gB2), (3, (.var [(.dat (.sl 1 (s_66.map elB)))])), (8, (.var [(.dat (I v_33)), (.dat (I 0)), (.dat (.str ([] : List UInt8))), (.own 120), (.own 111)])), (111, (.row 9 1 (l_37.map elStr))), (120, (.row 25 5 (l_36.map encVal)))]) _ (by kernel_rfl) (zc (gd_ff (rfl : false = false)) (z1 (zc (gd_ff (rfl : false = false)) (z2 (zc (rfl : false = false) zt))))) rfl ?_
  refine TL_inlineP 187 33 [] Tryd.f33 _ rfl rfl (by kernel_rfl) Tryd.func33 rfl rfl (by decide) ?_
  refine T_turn [] [0, 1] [] (mk 6 [(0, (rf 3 0)), (1, (db (!((Lib.itoa n_68) == s_63))))] [(0, gB0), (1, gB1), (2, gB2), (3, (.var [(.dat (.sl 1 (s_66.map elB)))])), (8, (.var [(.dat (I v_33)), (.dat (I 0)), (.dat (.str ([] : List UInt8))), (.own 120), (.own 111)])), (111, (.row 9 1 (l_37.map elStr))), (120, (.row 25 5 (l_36.map encVal)))]) (by kernel_rfl) ?_
  refine T_reg [] [4] [] (mk 6 [(4, (db (!((Lib.itoa n_68) == s_63))))] [(0, gB0), (1, gB1), (2, gB2), (3, (.var [(.dat (.sl 1 (s_66.map elB)))])), (8, (.var [(.dat (I v_33)), (.dat (I 0)), (.dat (.str ([] : List UInt8))), (.own 120), (.own 111)])), (111, (.row 9 1 (l_37.map elStr))), (120, (.row 25 5 (l_36.map encVal)))]) _ (by kernel_rfl) (z2 zt) ?_
  refine T_cond (!((Lib.itoa n_68) == s_63)) (by kernel_rfl) (fun b70 => ?_) (fun b70 => ?_)
  replace h := ite_t b70 h
  refine T_parts ?_
  refine TL_part 1 [] (mk 6 [(4, (db (!((Lib.itoa n_68) == s_63)))), (5, (dt (.iface 29 (I 20))))] [(0, gB0), (1, gB1), (2, gB2), (3, (.var [(.dat (.sl 1 (s_66.map elB)))])), (8, (.var [(.dat (I v_33)), (.dat (I 0)), (.dat (.str ([] : List UInt8))), (.own 120), (.own 111)])), (111, (.row 9 1 (l_37.map elStr))), (120, (.row 25 5 (l_36.map encVal)))]) _ (by kernel_rfl) (z2 zt) rfl ?_
  refine TL_panic 29 (I 20) rfl rfl (by kernel_rfl) ?_
  replace h := up_inv h hy1
  obtain rfl := some_inv h
  exact (show _ ∧ _ from ⟨rfl, (show _ ∧ _ from ⟨rfl, (show _ ∧ _ from ⟨rfl, (show _ ∧ _ from ⟨rfl, ⟨_, rfl, lk3 (by kernel_rfl) (by kernel_rfl) (by kernel_rfl)⟩⟩)⟩)⟩)⟩)
  replace h := ite_f b70 h
  refine T_skip ?_
  refine ⟨[], by kernel_rfl, ?_⟩
  refine TL_turn [] [6, 25] [] (mk 27 [(6, (di n_68)), (25, (.tup []))] [(0, gB0), (1, gB1), (2, gB2), (3, (.var [(.dat (.sl 1 (s_66.map elB)))])), (8, (.var [(.dat (I v_33)), (.dat (I 0)), (.dat (.str ([] : List UInt8))), (.own 120), (.own 111)])), (111, (.row 9 1 (l_37.map elStr))), (120, (.row 25 5 (l_36.map encVal)))]) (by kernel_rfl) ?_
  refine TL_nilQ ?_
  refine T_turn [] [6] [] (mk 27 [(6, (di n_68))] [(0, gB0), (1, gB1), (2, gB2), (3, (.var [(.dat (.sl 1 (s_66.map elB)))])), (8, (.var [(.dat (I v_33)), (.dat (I 0)), (.dat (.str ([] : List UInt8))), (.own 120), (.own 111)])), (111, (.row 9 1 (l_37.map elStr))), (120, (.row 25 5 (l_36.map encVal)))]) (by kernel_rfl) ?_
  refine T_reg [] [4] [] (mk 27 [(4, (di n_68))] [(0, gB0), (1, gB1), (2, gB2), (3, (.var [(.dat (.sl 1 (s_66.map elB)))])), (8, (.var [(.dat (I v_33)), (.dat (I 0)), (.dat (.str ([] : List UInt8))), (.own 120), (.own 111)])), (111, (.row 9 1 (l_37.map elStr))), (120, (.row 25 5 (l_36.map encVal)))]) _ (by kernel_rfl) (z4 zt) ?_
  refine T_ret ?_
  refine ⟨[(di n_68)], by kernel_rfl, ?_⟩
  refine TL_turn [] [0, 6] [] (mk 38 [(0, (rf 3 0)), (6, (di n_68))] [(0, gB0), (1, gB1), (2, gB2), (3, (.var [(.dat (.sl 1 (s_66.map elB)))])), (8, (.var [(.dat (I v_33)), (.dat (I 0)), (.dat (.str ([] : List UInt8))), (.own 120), (.own 111)])), (111, (.row 9 1 (l_37.map elStr))), (120, (.row 25 5 (l_36.map encVal)))]) (by kernel_rfl) ?_
  refine TL_part 1 [] (mk 38 [(0, (rf 3 0)), (3, (di n_68)), (6, (di n_68))] [(0, gB0), (1, gB1), (2, gB2), (3, (.var [(.dat (.sl 1 (s_66.map elB)))])), (8, (.var [(.dat (I v_33)), (.dat (I 0)), (.dat (.str ([] : List UInt8))), (.own 120), (.own 111)])), (111, (.row 9 1 (l_37.map elStr))), (120, (.row 25 5 (l_36.map encVal)))]) _ (by kernel_rfl) (z2 zt) rfl ?_
  refine TL_nilQ ?_
  refine T_turn [] [0, 3] [] (mk 38 [(0, (rf 3 0)), (3, (di n_68))] [(0, gB0), (1, gB1), (2, gB2), (3, (.var [(.dat (.sl 1 (s_66.map elB)))])), (8, (.var [(.dat (I v_33)), (.dat (I 0)), (.dat (.str ([] : List UInt8))), (.own 120), (.own 111)])), (111, (.row 9 1 (l_37.map elStr))), (120, (.row 25 5 (l_36.map encVal)))]) (by kernel_rfl) ?_
  rcases Bool.eq_false_or_eq_true (decide (n_68 < 0)) with b71 | b71
  replace h := ite_t b71 h
  refine T_seq (T_parts ?_)
  refine TL_part 12 [zn, zn, zn, zn, zg, zg, zg, zg, zg, zg, zg, (zd (B true))] (mk 38 [(0, (rf 3 0)), (3, (di n_68)), (7, (rf 3 0)), (8, (di n_68)), (9, (db (decide (n_68 < 0)))), (10, (db (decide (n_68 < 0)))), (11, (dt (.tup []))), (12, (dt (.tup []))), (13, (dt (.tup []))), (14, (dt (.tup []))), (15, (dt (.tup []))), (16, (dt (.tup []))), (17, (dt (.tup []))), (18, (db true))] [(0, gB0), (1, gB1), (2, gB2), (3, (.var [(.dat (.sl 1 (s_66.map elB)))])), (8, (.var [(.dat (I v_33)), (.dat (I 0)), (.dat (.str ([] : List UInt8))), (.own 120), (.own 111)])), (111, (.row 9 1 (l_37.map elStr))), (120, (.row 25 5 (l_36.map encVal)))]) _ (by kernel_rfl) (z8 (zc (gd_tf b71) (zc (gd_tf b71) (zc (gd_tf b71) (zc (gd_tf b71) (zc (gd_tf b71) (zc (gd_tf b71) (zc (gd_tf b71) (z1 (zc b71 zt)))))))))) rfl ?_
  refine TL_inlineP 160 33 [] Tryd.f33 _ rfl rfl (by kernel_rfl) Tryd.func33 rfl rfl (by decide) ?_
  refine T_turn [] [0, 1] [] (mk 6 [(0, (rf 3 0)), (1, (db true))] [(0, gB0), (1, gB1), (2, gB2), (3, (.var [(.dat (.sl 1 (s_66.map elB)))])), (8, (.var [(.dat (I v_33)), (.dat (I 0)), (.dat (.str ([] : List UInt8))), (.own 120), (.own 111)])), (111, (.row 9 1 (l_37.map elStr))), (120, (.row 25 5 (l_36.map encVal)))]) (by kernel_rfl) ?_
  refine T_reg [] [4] [] (mk 6 [(4, (db true))] [(0, gB0), (1, gB1), (2, gB2), (3, (.var [(.dat (.sl 1 (s_66.map elB)))])), (8, (.var [(.dat (I v_33)), (.dat (I 0)), (.dat (.str ([] : List UInt8))), (.own 120), (.own 111)])), (111, (.row 9 1 (l_37.map elStr))), (120, (.row 25 5 (l_36.map encVal)))]) _ (by kernel_rfl) (z2 zt) ?_
  refine T_cond true (by kernel_rfl) (fun _ => ?_) (fun h => absurd (h.symm.trans (rfl : true = true)) (by decide))
  refine T_parts ?_
  refine TL_part 1 [] (mk 6 [(4, (db true)), (5, (dt (.iface 29 (I 20))))] [(0, gB0), (1, gB1), (2, gB2), (3, (.var [(.dat (.sl 1 (s_66.map elB)))])), (8, (.var [(.dat (I v_33)), (.dat (I 0)), (.dat (.str ([] : List UInt8))), (.own 120), (.own 111)])), (111, (.row 9 1 (l_37.map elStr))), (120, (.row 25 5 (l_36.map encVal)))]) _ (by kernel_rfl) (z2 zt) rfl ?_
  refine TL_panic 29 (I 20) rfl rfl (by kernel_rfl) ?_
  replace h := up_inv h hy1
  obtain rfl := some_inv h
  exact (show _ ∧ _ from ⟨rfl, (show _ ∧ _ from ⟨rfl, (show _ ∧ _ from ⟨rfl, ⟨_, rfl, lk3 (by kernel_rfl) (by kernel_rfl) (by kernel_rfl)⟩⟩)⟩)⟩)
  replace h := ite_f b71 h
  refine T_seq (T_parts ?_)
  refine TL_part 12 (hl 12 [(9, (zd (I ((s_66.length : Nat) : Int)))), (11, (zd (B false)))]) (mk 38 [(0, (rf 3 0)), (3, (di n_68)), (7, (rf 3 0)), (8, (di n_68)), (9, (db (decide (n_68 < 0)))), (10, (db (decide (n_68 < 0)))), (11, (di n_68)), (12, (rf 3 0)), (13, (rf 3 0)), (14, (rf 3 0)), (15, (dt (.sl 1 (s_66.map elB)))), (16, (di ((s_66.length : Nat) : Int))), (17, (db (decide (n_68 > ((s_66.length : Nat) : Int))))), (18, (db (decide (n_68 > ((s_66.length : Nat) : Int)))))] [(0, gB0), (1, gB1), (2, gB2), (3, (.var [(.dat (.sl 1 (s_66.map elB)))])), (8, (.var [(.dat (I v_33)), (.dat (I 0)), (.dat (.str ([] : List UInt8))), (.own 120), (.own 111)])), (111, (.row 9 1 (l_37.map elStr))), (120, (.row 25 5 (l_36.map encVal)))]) _ (by kernel_rfl) (z8 (zc (gd_ff b71) (z1 (zc (gd_ff b71) (z1 (zc (gd_ff b71) (z1 (zc (gd_ff b71) (z1 (zc (gd_ff b71) (z1 (zc (gd_ff b71) (zc (len_s elB s_66) (zc (gd_ff b71) (z2 (zc b71 zt)))))))))))))))) rfl ?_
  refine TL_inlineP 160 33 [] Tryd.f33 _ rfl rfl (by kernel_rfl) Tryd.func33 rfl rfl (by decide) ?_
  refine T_turn [] [0, 1] [] (mk 6 [(0, (rf 3 0)), (1, (db (decide (n_68 > ((s_66.length : Nat) : Int)))))] [(0, gB0), (1, gB1), (2, gB2), (3, (.var [(.dat (.sl 1 (s_66.map elB)))])), (8, (.var [(.dat (I v_33)), (.dat (I 0)), (.dat (.str ([] : List UInt8))), (.own 120), (.own 111)])), (111, (.row 9 1 (l_37.map elStr))), (120, (.row 25 5 (l_36.map encVal)))]) (by kernel_rfl) ?_
  refine T_reg [] [4] [] (mk 6 [(4, (db (decide (n_68 > ((s_66.length : Nat) : Int)))))] [(0, gB0), (1, gB1), (2, gB2), (3, (.var [(.dat (.sl 1 (s_66.map elB)))])), (8, (.var [(.dat (I v_33)), (.dat (I 0)), (.dat (.str ([] : List UInt8))), (.own 120), (.own 111)])), (111, (.row 9 1 (l_37.map elStr))), (120, (.row 25 5 (l_36.map encVal)))]) _ (by kernel_rfl) (z2 zt) ?_
  refine T_cond (decide (n_68 > ((s_66.length : Nat) : Int))) (by kernel_rfl) (fun b72 => ?_) (fun b72 => ?_)
  replace h := ite_t b72 h
  refine T_parts ?_
  refine TL_part 1 [] (mk 6 [(4, (db (decide (n_68 > ((s_66.length : Nat) : Int))))), (5, (dt (.iface 29 (I 20))))] [(0, gB0), (1, gB1), (2, gB2), (3, (.var [(.dat (.sl 1 (s_66.map elB)))])), (8, (.var [(.dat (I v_33)), (.dat (I 0)), (.dat (.str ([] : List UInt8))), (.own 120), (.own 111)])), (111, (.row 9 1 (l_37.map elStr))), (120, (.row 25 5 (l_36.map encVal)))]) _ (by kernel_rfl) (z2 zt) rfl ?_
  refine TL_panic 29 (I 20) rfl rfl (by kernel_rfl) ?_
  replace h := up_inv h hy1
  obtain rfl := some_inv h
  exact (show _ ∧ _ from ⟨rfl, (show _ ∧ _ from ⟨rfl, (show _ ∧ _ from ⟨rfl, ⟨_, rfl, lk3 (by kernel_rfl) (by kernel_rfl) (by kernel_rfl)⟩⟩)⟩)⟩)
  replace h := ite_f b72 h
  refine T_skip ?_
  refine ⟨[], by kernel_rfl, ?_⟩
  refine TL_turn [] [0, 3, 19] [] (mk 38 [(0, (rf 3 0)), (3, (di n_68)), (19, (.tup []))] [(0, gB0), (1, gB1), (2, gB2), (3, (.var [(.dat (.sl 1 (s_66.map elB)))])), (8, (.var [(.dat (I v_33)), (.dat (I 0)), (.dat (.str ([] : List UInt8))), (.own 120), (.own 111)])), (111, (.row 9 1 (l_37.map elStr))), (120, (.row 25 5 (l_36.map encVal)))]) (by kernel_rfl) ?_
  refine TL_nilQ ?_
  refine T_turn [] [0, 3] [] (mk 38 [(0, (rf 3 0)), (3, (di n_68))] [(0, gB0), (1, gB1), (2, gB2), (3, (.var [(.dat (.sl 1 (s_66.map elB)))])), (8, (.var [(.dat (I v_33)), (.dat (I 0)), (.dat (.str ([] : List UInt8))), (.own 120), (.own 111)])), (111, (.row 9 1 (l_37.map elStr))), (120, (.row 25 5 (l_36.map encVal)))]) (by kernel_rfl) ?_
  obtain ⟨s_73, e74, h⟩ := sbm_inv 1 elB h
  refine T_reg (hl 7 [(6, (zd (.sl 1 (s_73.map elB))))]) [0, 3, 4] [] (mk 38 [(0, (rf 3 0)), (3, (di n_68)), (4, (dt (.sl 1 (s_73.map elB))))] [(0, gB0), (1, gB1), (2, gB2), (3, (.var [(.dat (.sl 1 (s_66.map elB)))])), (8, (.var [(.dat (I v_33)), (.dat (I 0)), (.dat (.str ([] : List UInt8))), (.own 120), (.own 111)])), (111, (.row 9 1 (l_37.map elStr))), (120, (.row 25 5 (l_36.map encVal)))]) _ (by kernel_rfl) (z8 (z5 (zc e74 (z2 zt)))) ?_
  obtain ⟨s_75, e76, h⟩ := sb_inv 1 elB h
  refine T_reg (hl 7 [(6, (zd (.sl 1 (s_75.map elB))))]) [4] [] (mk 38 [(4, (dt (.sl 1 (s_73.map elB))))] [(0, gB0), (1, gB1), (2, gB2), (3, (.var [(.dat (.sl 1 (s_75.map elB)))])), (8, (.var [(.dat (I v_33)), (.dat (I 0)), (.dat (.str ([] : List UInt8))), (.own 120), (.own 111)])), (111, (.row 9 1 (l_37.map elStr))), (120, (.row 25 5 (l_36.map encVal)))]) _ (by kernel_rfl) (z8 (z5 (zc e76 (z6 zt)))) ?_
  refine T_reg [zn, (zd (.str s_73))] [2] [] (mk 38 [(2, (dt (.str s_73)))] [(0, gB0), (1, gB1), (2, gB2), (3, (.var [(.dat (.sl 1 (s_75.map elB)))])), (8, (.var [(.dat (I v_33)), (.dat (I 0)), (.dat (.str ([] : List UInt8))), (.own 120), (.own 111)])), (111, (.row 9 1 (l_37.map elStr))), (120, (.row 25 5 (l_36.map encVal)))]) _ (by kernel_rfl) (z3 (zc (rfl : s_73.map elB = s_73.map elB) (z2 zt))) ?_
  refine T_ret ?_
  refine ⟨[(dt (.str s_73))], by kernel_rfl, ?_⟩
  refine TL_turn [] [0, 1, 4, 84] [] (mk 118 [(0, (rf 3 0)), (1, (di depth_2)), (4, (rf 8 0)), (84, (dt (.str s_73)))] [(0, gB0), (1, gB1), (2, gB2), (3, (.var [(.dat (.sl 1 (s_75.map elB)))])), (8, (.var [(.dat (I v_33)), (.dat (I 0)), (.dat (.str ([] : List UInt8))), (.own 120), (.own 111)])), (111, (.row 9 1 (l_37.map elStr))), (120, (.row 25 5 (l_36.map encVal)))]) (by kernel_rfl) ?_
  refine TL_part 1 [] (mk 118 [(0, (rf 3 0)), (1, (di depth_2)), (4, (rf 8 0)), (6, (dt (.str s_73))), (84, (dt (.str s_73)))] [(0, gB0), (1, gB1), (2, gB2), (3, (.var [(.dat (.sl 1 (s_75.map elB)))])), (8, (.var [(.dat (I v_33)), (.dat (I 0)), (.dat (.str ([] : List UInt8))), (.own 120), (.own 111)])), (111, (.row 9 1 (l_37.map elStr))), (120, (.row 25 5 (l_36.map encVal)))]) _ (by kernel_rfl) (z2 zt) rfl ?_
  refine TL_nilQ ?_
  refine T_turn [] [0, 1, 4, 6] [] (mk 118 [(0, (rf 3 0)), (1, (di depth_2)), (4, (rf 8 0)), (6, (dt (.str s_73)))] [(0, gB0), (1, gB1), (2, gB2), (3, (.var [(.dat (.sl 1 (s_75.map elB)))])), (8, (.var [(.dat (I v_33)), (.dat (I 0)), (.dat (.str ([] : List UInt8))), (.own 120), (.own 111)])), (111, (.row 9 1 (l_37.map elStr))), (120, (.row 25 5 (l_36.map encVal)))]) (by kernel_rfl) ?_
  refine T_seqJ (α := Unit) (fun (_ : Unit) => (mk 118 [(0, (rf 3 0)), (1, (di depth_2)), (4, (rf 8 0)), (6, (dt (.str s_73)))] [(0, gB0), (1, gB1), (2, gB2), (3, (.var [(.dat (.sl 1 (s_75.map elB)))])), (8, (.var [(.dat (I v_33)), (.dat (I 0)), (.dat (.str ([] : List UInt8))), (.own 120), (.own 111)])), (111, (.row 9 1 (l_37.map elStr))), (120, (.row 25 5 (l_36.map encVal)))])) (fun (_ : Unit) => g__codec_reader_value_s_j9 l_37 s_73 depth_2 rc l_36 v_33 s_75 = some y1) (fun v h => ?_) ?_
  obtain ⟨c77, h⟩ := ck_inv h
  exact T_regJ (hl 5 [(4, (zd (.sl 1 ((l_37 ++ [s_73]).map elStr))))]) [] [0, 1, 4] [110] [0, 1, 2, 3, 8, 111, 120] _ _ (by kernel_rfl) (z7 (zc (show dfill (fun i => some (i * 1, 1)) (List.replicate (1 * 1) .junk) [(0, [(.dat (.str s_73))])] = some ((flat ([s_73].map elStr)).map .dat) from rfl) (z1 (zc (app_s elStr elStr_one l_37 ([s_73]) c77) (z4 zt))))) (fun s hs => Exists.intro (s_75, (l_37 ++ [s_73])) (And.intro h hs))
  rcases Bool.eq_false_or_eq_true (decide (((l_37.length : Nat) : Int) > 0)) with b78 | b78
  replace h := ite_t b78 h
  obtain ⟨c79, h⟩ := ckI_inv h
  obtain ⟨x_80, e81, e82, e83, h⟩ := gt_inv elStr h
  refine T_parts ?_
  refine TL_part 17 (hl 17 [(3, (zd (I ((l_37.length : Nat) : Int)))), (10, (zd (I ((l_37.length : Nat) : Int)))), (11, (zd (I (((l_37.length : Nat) : Int) - 1)))), (13, (zd (.str x_80))), (16, (zd (B true)))]) (mk 118 [(0, (rf 3 0)), (1, (di depth_2)), (4, (rf 8 0)), (6, (dt (.str s_73))), (85, (rf 3 0)), (86, (rf 8 4)), (87, (ow 111)), (88, (di ((l_37.length : Nat) : Int))), (89, (db (decide (((l_37.length : Nat) : Int) > 0)))), (90, (db (decide (((l_37.length : Nat) : Int) > 0)))), (91, (rf 8 4)), (92, (ow 111)), (93, (rf 8 4)), (94, (ow 111)), (95, (di ((l_37.length : Nat) : Int))), (96, (di (((l_37.length : Nat) : Int) - 1))), (97, (.one (.rref 111 ((((l_37.length : Nat) : Int) - 1)).toNat 0))), (98, (dt (.str x_80))), (99, (dt (.str s_73))), (100, (db (!(Op.bytesLess x_80 s_73)))), (101, (db (!(Op.bytesLess x_80 s_73))))] [(0, gB0), (1, gB1), (2, gB2), (3, (.var [(.dat (.sl 1 (s_75.map elB)))])), (8, (.var [(.dat (I v_33)), (.dat (I 0)), (.dat (.str ([] : List UInt8))), (.own 120), (.own 111)])), (111, (.row 9 1 (l_37.map elStr))), (120, (.row 25 5 (l_36.map encVal)))]) _ (by kernel_rfl) (z7 (zc (len_s elStr l_37) (z4 (zc (gd_tt b78) (z1 (zc (gd_tt b78) (z1 (zc (gd_tt b78) (z1 (zc (gd_tt b78) (z1 (zc (gd_tt b78) (zc (len_s elStr l_37) (zc (gd_tt b78) (zc c79 (zc (gd_tt b78) (zc e82 (zc (gd_tt b78) (zc e83 (zc (gd_tt b78) (z1 (zc (gd_tt b78) (z2 (zc b78 zt)))))))))))))))))))))))) rfl ?_
  refine TL_inlineP 122 33 [] Tryd.f33 _ rfl rfl (by kernel_rfl) Tryd.func33 rfl rfl (by decide) ?_
  refine T_turn [] [0, 1] [] (mk 6 [(0, (rf 3 0)), (1, (db (!(Op.bytesLess x_80 s_73))))] [(0, gB0), (1, gB1), (2, gB2), (3, (.var [(.dat (.sl 1 (s_75.map elB)))])), (8, (.var [(.dat (I v_33)), (.dat (I 0)), (.dat (.str ([] : List UInt8))), (.own 120), (.own 111)])), (111, (.row 9 1 (l_37.map elStr))), (120, (.row 25 5 (l_36.map encVal)))]) (by kernel_rfl) ?_
  refine T_reg [] [4] [] (mk 6 [(4, (db (!(Op.bytesLess x_80 s_73))))] [(0, gB0), (1, gB1), (2, gB2), (3, (.var [(.dat (.sl 1 (s_75.map elB)))])), (8, (.var [(.dat (I v_33)), (.dat (I 0)), (.dat (.str ([] : List UInt8))), (.own 120), (.own 111)])), (111, (.row 9 1 (l_37.map elStr))), (120, (.row 25 5 (l_36.map encVal)))]) _ (by kernel_rfl) (z2 zt) ?_
  refine T_cond (!(Op.bytesLess x_80 s_73)) (by kernel_rfl) (fun b84 => ?_) (fun b84 => ?_)
  replace h := ite_t b84 h
  refine T_parts ?_
  refine TL_part 1 [] (mk 6 [(4, (db (!(Op.bytesLess x_80 s_73)))), (5, (dt (.iface 29 (I 20))))] [(0, gB0), (1, gB1), (2, gB2), (3, (.var [(.dat (.sl 1 (s_75.map elB)))])), (8, (.var [(.dat (I v_33)), (.dat (I 0)), (.dat (.str ([] : List UInt8))), (.own 120), (.own 111)])), (111, (.row 9 1 (l_37.map elStr))), (120, (.row 25 5 (l_36.map encVal)))]) _ (by kernel_rfl) (z2 zt) rfl ?_
  refine TL_panic 29 (I 20) rfl rfl (by kernel_rfl) ?_
  replace h := up_inv h hy1
  obtain rfl := some_inv h
  exact (show _ ∧ _ from ⟨rfl, (show _ ∧ _ from ⟨rfl, ⟨_, rfl, lk3 (by kernel_rfl) (by kernel_rfl) (by kernel_rfl)⟩⟩)⟩)
  replace h := ite_f b84 h
  refine T_skip ?_
  refine ⟨[], by kernel_rfl, ?_⟩
  refine TL_turn [] [0, 1, 4, 6, 102] [] (mk 118 [(0, (rf 3 0)), (1, (di depth_2)), (4, (rf 8 0)), (6, (dt (.str s_73))), (102, (.tup []))] [(0, gB0), (1, gB1), (2, gB2), (3, (.var [(.dat (.sl 1 (s_75.map elB)))])), (8, (.var [(.dat (I v_33)), (.dat (I 0)), (.dat (.str ([] : List UInt8))), (.own 120), (.own 111)])), (111, (.row 9 1 (l_37.map elStr))), (120, (.row 25 5 (l_36.map encVal)))]) (by kernel_rfl) ?_
  refine TL_nilQ ?_
  exact Exists.intro () (And.intro h (arr [] [0, 1, 4, 6] [] [0, 1, 2, 3, 8, 111, 120] (by kernel_rfl)))
  replace h := ite_f b78 h
  refine T_parts ?_
  refine TL_part 17 [zn, zn, zn, (zd (I ((l_37.length : Nat) : Int))), zn, zn, zg, zg, zg, zg, zg, zg, zg, zg, zg, zg, (zd (B false))] (mk 118 [(0, (rf 3 0)), (1, (di depth_2)), (4, (rf 8 0)), (6, (dt (.str s_73))), (85, (rf 3 0)), (86, (rf 8 4)), (87, (ow 111)), (88, (di ((l_37.length : Nat) : Int))), (89, (db (decide (((l_37.length : Nat) : Int) > 0)))), (90, (db (decide (((l_37.length : Nat) : Int) > 0)))), (91, (dt (.tup []))), (92, (dt (.tup []))), (93, (dt (.tup []))), (94, (dt (.tup []))), (95, (dt (.tup []))), (96, (dt (.tup []))), (97, (dt (.tup []))), (98, (dt (.tup []))), (99, (dt (.tup []))), (100, (dt (.tup []))), (101, (db false))] [(0, gB0), (1, gB1), (2, gB2), (3, (.var [(.dat (.sl 1 (s_75.map elB)))])), (8, (.var [(.dat (I v_33)), (.dat (I 0)), (.dat (.str ([] : List UInt8))), (.own 120), (.own 111)])), (111, (.row 9 1 (l_37.map elStr))), (120, (.row 25 5 (l_36.map encVal)))]) _ (by kernel_rfl) (z7 (zc (len_s elStr l_37) (z4 (zc (gd_ft b78) (zc (gd_ft b78) (zc (gd_ft b78) (zc (gd_ft b78) (zc (gd_ft b78) (zc (gd_ft b78) (zc (gd_ft b78) (zc (gd_ft b78) (zc (gd_ft b78) (zc (gd_ft b78) (z1 (zc b78 zt))))))))))))))) rfl ?_
  refine TL_inlineP 122 33 [] Tryd.f33 _ rfl rfl (by kernel_rfl) Tryd.func33 rfl rfl (by decide) ?_
  refine T_turn [] [0, 1] [] (mk 6 [(0, (rf 3 0)), (1, (db false))] [(0, gB0), (1, gB1), (2, gB2), (3, (.var [(.dat (.sl 1 (s_75.map elB)))])), (8, (.var [(.dat (I v_33)), (.dat (I 0)), (.dat (.str ([] : List UInt8))), (.own 120), (.own 111)])), (111, (.row 9 1 (l_37.map elStr))), (120, (.row 25 5 (l_36.map encVal)))]) (by kernel_rfl) ?_
  refine T_reg [] [4] [] (mk 6 [(4, (db false))] [(0, gB0), (1, gB1), (2, gB2), (3, (.var [(.dat (.sl 1 (s_75.map elB)))])), (8, (.var [(.dat (I v_33)), (.dat (I 0)), (.dat (.str ([] : List UInt8))), (.own 120), (.own 111)])), (111, (.row 9 1 (l_37.map elStr))), (120, (.row 25 5 (l_36.map encVal)))]) _ (by kernel_rfl) (z2 zt) ?_
  refine T_cond false (by kernel_rfl) (fun h => absurd (h.symm.trans (rfl : false = false)) (by decide)) (fun _ => ?_)
  refine T_skip ?_
  refine ⟨[], by kernel_rfl, ?_⟩
  refine TL_turn [] [0, 1, 4, 6, 102] [] (mk 118 [(0, (rf 3 0)), (1, (di depth_2)), (4, (rf 8 0)), (6, (dt (.str s_73))), (102, (.tup []))] [(0, gB0), (1, gB1), (2, gB2), (3, (.var [(.dat (.sl 1 (s_75.map elB)))])), (8, (.var [(.dat (I v_33)), (.dat (I 0)), (.dat (.str ([] : List UInt8))), (.own 120), (.own 111)])), (111, (.row 9 1 (l_37.map elStr))), (120, (.row 25 5 (l_36.map encVal)))]) (by kernel_rfl) ?_
  refine TL_nilQ ?_
  exact Exists.intro () (And.intro h (arr [] [0, 1, 4, 6] [] [0, 1, 2, 3, 8, 111, 120] (by kernel_rfl)))
  refine T_seq (T_parts ?_)
  refine TL_part 2 [] (mk 27 [(0, (rf 3 0)), (5, (dt (.str s_63))), (6, (dt .any)), (7, (dt (.iface 100 .any))), (16, (rf 3 0)), (17, (dt (.iface 100 .any)))] [(0, gB0), (1, gB1), (2, gB2), (3, (.var [(.dat (.sl 1 (s_66.map elB)))])), (8, (.var [(.dat (I v_33)), (.dat (I 0)), (.dat (.str ([] : List UInt8))), (.own 120), (.own 111)])), (111, (.row 9 1 (l_37.map elStr))), (120, (.row 25 5 (l_36.map encVal)))]) _ (by kernel_rfl) (z4 zt) rfl ?_
  refine TL_neNil 84 84 18 true rfl rfl rfl (by kernel_rfl) (.inl ⟨rfl, 100, .any, by kernel_rfl⟩) ?_
  refine TL_turn [] [5, 6, 16, 18] [] (mk 27 [(5, (dt (.str s_63))), (6, (dt .any)), (16, (rf 3 0)), (18, (db true))] [(0, gB0), (1, gB1), (2, gB2), (3, (.var [(.dat (.sl 1 (s_66.map elB)))])), (8, (.var [(.dat (I v_33)), (.dat (I 0)), (.dat (.str ([] : List UInt8))), (.own 120), (.own 111)])), (111, (.row 9 1 (l_37.map elStr))), (120, (.row 25 5 (l_36.map encVal)))]) (by kernel_rfl) ?_
  refine TL_part 6 [zn, zg, zg, zg, zg, (zd (B true))] (mk 27 [(5, (dt (.str s_63))), (6, (dt .any)), (16, (rf 3 0)), (18, (db true)), (19, (db true)), (20, (dt (.tup []))), (21, (dt (.tup []))), (22, (dt (.tup []))), (23, (dt (.tup []))), (24, (db true))] [(0, gB0), (1, gB1), (2, gB2), (3, (.var [(.dat (.sl 1 (s_66.map elB)))])), (8, (.var [(.dat (I v_33)), (.dat (I 0)), (.dat (.str ([] : List UInt8))), (.own 120), (.own 111)])), (111, (.row 9 1 (l_37.map elStr))), (120, (.row 25 5 (l_36.map encVal)))]) _ (by kernel_rfl) (z2 (zc (gd_tf (rfl : true = true)) (zc (gd_tf (rfl : true = true)) (zc (gd_tf (rfl : true = true)) (zc (gd_tf (rfl : true = true)) (z1 (zc (rfl : true = true) zt))))))) rfl ?_
  refine TL_inlineP 187 33 [] Tryd.f33 _ rfl rfl (by kernel_rfl) Tryd.func33 rfl rfl (by decide) ?_
  refine T_turn [] [0, 1] [] (mk 6 [(0, (rf 3 0)), (1, (db true))] [(0, gB0), (1, gB1), (2, gB2), (3, (.var [(.dat (.sl 1 (s_66.map elB)))])), (8, (.var [(.dat (I v_33)), (.dat (I 0)), (.dat (.str ([] : List UInt8))), (.own 120), (.own 111)])), (111, (.row 9 1 (l_37.map elStr))), (120, (.row 25 5 (l_36.map encVal)))]) (by kernel_rfl) ?_
  refine T_reg [] [4] [] (mk 6 [(4, (db true))] [(0, gB0), (1, gB1), (2, gB2), (3, (.var [(.dat (.sl 1 (s_66.map elB)))])), (8, (.var [(.dat (I v_33)), (.dat (I 0)), (.dat (.str ([] : List UInt8))), (.own 120), (.own 111)])), (111, (.row 9 1 (l_37.map elStr))), (120, (.row 25 5 (l_36.map encVal)))]) _ (by kernel_rfl) (z2 zt) ?_
  refine T_cond true (by kernel_rfl) (fun _ => ?_) (fun h => absurd (h.symm.trans (rfl : true = true)) (by decide))
  refine T_parts ?_
  refine TL_part 1 [] (mk 6 [(4, (db true)), (5, (dt (.iface 29 (I 20))))] [(0, gB0), (1, gB1), (2, gB2), (3, (.var [(.dat (.sl 1 (s_66.map elB)))])), (8, (.var [(.dat (I v_33)), (.dat (I 0)), (.dat (.str ([] : List UInt8))), (.own 120), (.own 111)])), (111, (.row 9 1 (l_37.map elStr))), (120, (.row 25 5 (l_36.map encVal)))]) _ (by kernel_rfl) (z2 zt) rfl ?_
  refine TL_panic 29 (I 20) rfl rfl (by kernel_rfl) ?_
  replace h := up_inv h hy1
  obtain rfl := some_inv h
  exact (show _ ∧ _ from ⟨rfl, (show _ ∧ _ from ⟨rfl, (show _ ∧ _ from ⟨rfl, (show _ ∧ _ from ⟨rfl, ⟨_, rfl, lk3 (by kernel_rfl) (by kernel_rfl) (by kernel_rfl)⟩⟩)⟩)⟩)⟩)
  refine T_parts ?_
  refine TL_part 1 [] (mk 27 [(0, (rf 3 0)), (5, (dt (.str s_63))), (12, (dt (.str s_63)))] [(0, gB0), (1, gB1), (2, gB2), (3, (.var [(.dat (.sl 1 (s_66.map elB)))])), (8, (.var [(.dat (I v_33)), (.dat (I 0)), (.dat (.str ([] : List UInt8))), (.own 120), (.own 111)])), (111, (.row 9 1 (l_37.map elStr))), (120, (.row 25 5 (l_36.map encVal)))]) _ (by kernel_rfl) (z2 zt) rfl ?_
  obtain ⟨c85, h⟩ := ck_inv h
  refine TL_parseInt Tryd.lparse 13 1 2 s_63 rfl rfl rfl (by kernel_rfl) (by kernel_rfl) (by kernel_rfl) (by kernel_rfl) c85 (by kernel_rfl) (by kernel_rfl) (fun n_86 p87 => ?_) (fun p87 => ?_)
  replace h := onP_some h p87
  refine TL_turn [] [0, 5, 13] [] (mk 27 [(0, (rf 3 0)), (5, (dt (.str s_63))), (13, (.tup [(false, [(.dat (I n_86))]), (false, [(.dat (.con .nilIface))])]))] [(0, gB0), (1, gB1), (2, gB2), (3, (.var [(.dat (.sl 1 (s_66.map elB)))])), (8, (.var [(.dat (I v_33)), (.dat (I 0)), (.dat (.str ([] : List UInt8))), (.own 120), (.own 111)])), (111, (.row 9 1 (l_37.map elStr))), (120, (.row 25 5 (l_36.map encVal)))]) (by kernel_rfl) ?_
  refine TL_part 5 [] (mk 27 [(0, (rf 3 0)), (5, (dt (.str s_63))), (6, (di n_86)), (7, (dt (.con .nilIface))), (11, (.tup [(false, [(.dat (I n_86))]), (false, [(.dat (.con .nilIface))])])), (13, (.tup [(false, [(.dat (I n_86))]), (false, [(.dat (.con .nilIface))])])), (14, (di n_86)), (15, (dt (.con .nilIface)))] [(0, gB0), (1, gB1), (2, gB2), (3, (.var [(.dat (.sl 1 (s_66.map elB)))])), (8, (.var [(.dat (I v_33)), (.dat (I 0)), (.dat (.str ([] : List UInt8))), (.own 120), (.own 111)])), (111, (.row 9 1 (l_37.map elStr))), (120, (.row 25 5 (l_36.map encVal)))]) _ (by kernel_rfl) (z8 (z2 zt)) rfl ?_
  refine TL_nilQ ?_
  exact Exists.intro (.inl n_86) (And.intro h (arr [] [0, 5, 6, 7] [] [0, 1, 2, 3, 8, 111, 120] (by kernel_rfl)))
  replace h := onP_none h p87
  refine TL_turn [] [0, 5, 13] [] (mk 27 [(0, (rf 3 0)), (5, (dt (.str s_63))), (13, (.tup [(false, [(.dat .any)]), (false, [(.dat (.iface 100 .any))])]))] [(0, gB0), (1, gB1), (2, gB2), (3, (.var [(.dat (.sl 1 (s_66.map elB)))])), (8, (.var [(.dat (I v_33)), (.dat (I 0)), (.dat (.str ([] : List UInt8))), (.own 120), (.own 111)])), (111, (.row 9 1 (l_37.map elStr))), (120, (.row 25 5 (l_36.map encVal)))]) (by kernel_rfl) ?_
  refine TL_part 5 [] (mk 27 [(0, (rf 3 0)), (5, (dt (.str s_63))), (6, (dt .any)), (7, (dt (.iface 100 .any))), (11, (.tup [(false, [(.dat .any)]), (false, [(.dat (.iface 100 .any))])])), (13, (.tup [(false, [(.dat .any)]), (false, [(.dat (.iface 100 .any))])])), (14, (dt .any)), (15, (dt (.iface 100 .any)))] [(0, gB0), (1, gB1), (2, gB2), (3, (.var [(.dat (.sl 1 (s_66.map elB)))])), (8, (.var [(.dat (I v_33)), (.dat (I 0)), (.dat (.str ([] : List UInt8))), (.own 120), (.own 111)])), (111, (.row 9 1 (l_37.map elStr))), (120, (.row 25 5 (l_36.map encVal)))]) _ (by kernel_rfl) (z8 (z2 zt)) rfl ?_
  refine TL_nilQ ?_
  exact Exists.intro (.inr ()) (And.intro h (arr [] [0, 5, 6, 7] [] [0, 1, 2, 3, 8, 111, 120] (by kernel_rfl)))
  replace h := ite_f b58 h
  refine T_skip ?_
  exact Exists.intro (v_35, l_37) (And.intro h (arr [] [0, 1, 4] [] [0, 1, 2, 3, 8, 111, 120] (by kernel_rfl)))
  refine T_reg [] [0, 1, 4, 38] [] (mk 118 [(0, (rf 3 0)), (1, (di depth_2)), (4, (rf 8 0)), (38, (dt (.int .u8 ((x_4.toNat : Nat) : Int))))] [(0, gB0), (1, gB1), (2, gB2), (3, (.var [(.dat (.sl 1 (s_31.map elB)))])), (8, (.var [(.dat (I 0)), (.dat (I 0)), (.dat (.str ([] : List UInt8))), (.dat nilS), (.dat nilS)]))]) _ (by kernel_rfl) (z2 zt) ?_
  refine T_block ?_
  refine T_reg [] [0, 1, 4, 38, 41] [] (mk 118 [(0, (rf 3 0)), (1, (di depth_2)), (4, (rf 8 0)), (38, (dt (.int .u8 ((x_4.toNat : Nat) : Int)))), (41, (db (((x_4.toNat : Nat) : Int) == 105)))] [(0, gB0), (1, gB1), (2, gB2), (3, (.var [(.dat (.sl 1 (s_31.map elB)))])), (8, (.var [(.dat (I 0)), (.dat (I 0)), (.dat (.str ([] : List UInt8))), (.dat nilS), (.dat nilS)]))]) _ (by kernel_rfl) (z4 zt) ?_
  refine T_cond (((x_4.toNat : Nat) : Int) == 105) (by kernel_rfl) (fun b88 => ?_) (fun b88 => ?_)
  replace h := ite_t b88 h
  refine T_seq (T_parts ?_)
  refine TL_part 1 [] (mk 118 [(0, (rf 3 0)), (1, (di depth_2)), (4, (rf 8 0)), (38, (dt (.int .u8 ((x_4.toNat : Nat) : Int)))), (41, (db (((x_4.toNat : Nat) : Int) == 105))), (43, (rf 3 0))] [(0, gB0), (1, gB1), (2, gB2), (3, (.var [(.dat (.sl 1 (s_31.map elB)))])), (8, (.var [(.dat (I 0)), (.dat (I 0)), (.dat (.str ([] : List UInt8))), (.dat nilS), (.dat nilS)]))]) _ (by kernel_rfl) (z2 zt) rfl ?_
  refine TL_inlineP 122 50 [] Tryd.f50 _ rfl rfl (by kernel_rfl) Tryd.func50 rfl rfl (by decide) ?_
  refine T_turn [] [0, 1] [] (mk 27 [(0, (rf 3 0)), (1, (dt (.int .u8 101)))] [(0, gB0), (1, gB1), (2, gB2), (3, (.var [(.dat (.sl 1 (s_31.map elB)))])), (8, (.var [(.dat (I 0)), (.dat (I 0)), (.dat (.str ([] : List UInt8))), (.dat nilS), (.dat nilS)]))]) (by kernel_rfl) ?_
  refine T_reg [] [0, 1] [] (mk 27 [(0, (rf 3 0)), (1, (dt (.int .u8 101)))] [(0, gB0), (1, gB1), (2, gB2), (3, (.var [(.dat (.sl 1 (s_31.map elB)))])), (8, (.var [(.dat (I 0)), (.dat (I 0)), (.dat (.str ([] : List UInt8))), (.dat nilS), (.dat nilS)]))]) _ (by kernel_rfl) (z2 zt) ?_
  refine T_seq (T_parts ?_)
  refine TL_part 2 [] (mk 27 [(0, (rf 3 0)), (1, (dt (.int .u8 101))), (8, (rf 3 0)), (9, (dt (.int .u8 101)))] [(0, gB0), (1, gB1), (2, gB2), (3, (.var [(.dat (.sl 1 (s_31.map elB)))])), (8, (.var [(.dat (I 0)), (.dat (I 0)), (.dat (.str ([] : List UInt8))), (.dat nilS), (.dat nilS)]))]) _ (by kernel_rfl) (z4 zt) rfl ?_
  refine TL_inlineP 149 56 [] Tryd.f56 _ rfl rfl (by kernel_rfl) Tryd.func56 rfl rfl (by decide) ?_
  refine T_turn [] [0, 1] [] (mk 40 [(0, (rf 3 0)), (1, (dt (.int .u8 101)))] [(0, gB0), (1, gB1), (2, gB2), (3, (.var [(.dat (.sl 1 (s_31.map elB)))])), (8, (.var [(.dat (I 0)), (.dat (I 0)), (.dat (.str ([] : List UInt8))), (.dat nilS), (.dat nilS)]))]) (by kernel_rfl) ?_
  refine T_reg [] [0, 1] [] (mk 40 [(0, (rf 3 0)), (1, (dt (.int .u8 101)))] [(0, gB0), (1, gB1), (2, gB2), (3, (.var [(.dat (.sl 1 (s_31.map elB)))])), (8, (.var [(.dat (I 0)), (.dat (I 0)), (.dat (.str ([] : List UInt8))), (.dat nilS), (.dat nilS)]))]) _ (by kernel_rfl) (z2 zt) ?_
  obtain ⟨r_89, e90, h⟩ := bd_inv h
  refine T_reg (hl 6 [(5, (zd (I r_89)))]) [0, 5] [] (mk 40 [(0, (rf 3 0)), (5, (di r_89))] [(0, gB0), (1, gB1), (2, gB2), (3, (.var [(.dat (.sl 1 (s_31.map elB)))])), (8, (.var [(.dat (I 0)), (.dat (I 0)), (.dat (.str ([] : List UInt8))), (.dat nilS), (.dat nilS)]))]) _ (by kernel_rfl) (z8 (z3 (zc (g_slices_Index_Lbyte_byte_ret e90) (z2 zt)))) ?_
  rcases Bool.eq_false_or_eq_true (decide (r_89 < 0)) with b91 | b91
  replace h := ite_t b91 h
  refine T_seq (T_parts ?_)
  refine TL_part 7 [zn, zn, zn, zn, zg, zg, (zd (B true))] (mk 40 [(0, (rf 3 0)), (5, (di r_89)), (13, (rf 3 0)), (14, (di r_89)), (15, (db (decide (r_89 < 0)))), (16, (db (decide (r_89 < 0)))), (17, (dt (.tup []))), (18, (dt (.tup []))), (19, (db true))] [(0, gB0), (1, gB1), (2, gB2), (3, (.var [(.dat (.sl 1 (s_31.map elB)))])), (8, (.var [(.dat (I 0)), (.dat (I 0)), (.dat (.str ([] : List UInt8))), (.dat nilS), (.dat nilS)]))]) _ (by kernel_rfl) (z8 (zc (gd_tf b91) (zc (gd_tf b91) (z1 (zc b91 zt))))) rfl ?_
  refine TL_inlineP 189 33 [] Tryd.f33 _ rfl rfl (by kernel_rfl) Tryd.func33 rfl rfl (by decide) ?_
  refine T_turn [] [0, 1] [] (mk 6 [(0, (rf 3 0)), (1, (db true))] [(0, gB0), (1, gB1), (2, gB2), (3, (.var [(.dat (.sl 1 (s_31.map elB)))])), (8, (.var [(.dat (I 0)), (.dat (I 0)), (.dat (.str ([] : List UInt8))), (.dat nilS), (.dat nilS)]))]) (by kernel_rfl) ?_
  refine T_reg [] [4] [] (mk 6 [(4, (db true))] [(0, gB0), (1, gB1), (2, gB2), (3, (.var [(.dat (.sl 1 (s_31.map elB)))])), (8, (.var [(.dat (I 0)), (.dat (I 0)), (.dat (.str ([] : List UInt8))), (.dat nilS), (.dat nilS)]))]) _ (by kernel_rfl) (z2 zt) ?_
  refine T_cond true (by kernel_rfl) (fun _ => ?_) (fun h => absurd (h.symm.trans (rfl : true = true)) (by decide))
  refine T_parts ?_
  refine TL_part 1 [] (mk 6 [(4, (db true)), (5, (dt (.iface 29 (I 20))))] [(0, gB0), (1, gB1), (2, gB2), (3, (.var [(.dat (.sl 1 (s_31.map elB)))])), (8, (.var [(.dat (I 0)), (.dat (I 0)), (.dat (.str ([] : List UInt8))), (.dat nilS), (.dat nilS)]))]) _ (by kernel_rfl) (z2 zt) rfl ?_
  refine TL_panic 29 (I 20) rfl rfl (by kernel_rfl) ?_
  obtain rfl := some_inv h
  exact (show _ ∧ _ from ⟨rfl, (show _ ∧ _ from ⟨rfl, (show _ ∧ _ from ⟨rfl, (show _ ∧ _ from ⟨rfl, ⟨_, rfl, lk3 (by kernel_rfl) (by kernel_rfl) (by kernel_rfl)⟩⟩)⟩)⟩)⟩)
  replace h := ite_f b91 h
  refine T_seq (T_parts ?_)
  refine TL_part 7 (hl 7 [(6, (zd (B false)))]) (mk 40 [(0, (rf 3 0)), (5, (di r_89)), (13, (rf 3 0)), (14, (di r_89)), (15, (db (decide (r_89 < 0)))), (16, (db (decide (r_89 < 0)))), (17, (di r_89)), (18, (db (decide (r_89 > 20)))), (19, (db (decide (r_89 > 20))))] [(0, gB0), (1, gB1), (2, gB2), (3, (.var [(.dat (.sl 1 (s_31.map elB)))])), (8, (.var [(.dat (I 0)), (.dat (I 0)), (.dat (.str ([] : List UInt8))), (.dat nilS), (.dat nilS)]))]) _ (by kernel_rfl) (z8 (zc (gd_ff b91) (z1 (zc (gd_ff b91) (z2 (zc b91 zt)))))) rfl ?_
  refine TL_inlineP 189 33 [] Tryd.f33 _ rfl rfl (by kernel_rfl) Tryd.func33 rfl rfl (by decide) ?_
  refine T_turn [] [0, 1] [] (mk 6 [(0, (rf 3 0)), (1, (db (decide (r_89 > 20))))] [(0, gB0), (1, gB1), (2, gB2), (3, (.var [(.dat (.sl 1 (s_31.map elB)))])), (8, (.var [(.dat (I 0)), (.dat (I 0)), (.dat (.str ([] : List UInt8))), (.dat nilS), (.dat nilS)]))]) (by kernel_rfl) ?_
  refine T_reg [] [4] [] (mk 6 [(4, (db (decide (r_89 > 20))))] [(0, gB0), (1, gB1), (2, gB2), (3, (.var [(.dat (.sl 1 (s_31.map elB)))])), (8, (.var [(.dat (I 0)), (.dat (I 0)), (.dat (.str ([] : List UInt8))), (.dat nilS), (.dat nilS)]))]) _ (by kernel_rfl) (z2 zt) ?_
  refine T_cond (decide (r_89 > 20)) (by kernel_rfl) (fun b92 => ?_) (fun b92 => ?_)
  replace h := ite_t b92 h
  refine T_parts ?_
  refine TL_part 1 [] (mk 6 [(4, (db (decide (r_89 > 20)))), (5, (dt (.iface 29 (I 20))))] [(0, gB0), (1, gB1), (2, gB2), (3, (.var [(.dat (.sl 1 (s_31.map elB)))])), (8, (.var [(.dat (I 0)), (.dat (I 0)), (.dat (.str ([] : List UInt8))), (.dat nilS), (.dat nilS)]))]) _ (by kernel_rfl) (z2 zt) rfl ?_
  refine TL_panic 29 (I 20) rfl rfl (by kernel_rfl) ?_
  obtain rfl := some_inv h
  exact (show _ ∧ _ from ⟨rfl, (show _ ∧ _ from ⟨rfl, (show _ ∧ _ from ⟨rfl, (show _ ∧ _ from ⟨rfl, ⟨_, rfl, lk3 (by kernel_rfl) (by kernel_rfl) (by kernel_rfl)⟩⟩)⟩)⟩)⟩)
  replace h := ite_f b92 h
  refine T_skip ?_
  refine ⟨[], by kernel_rfl, ?_⟩
  refine TL_turn [] [0, 5, 20] [] (mk 40 [(0, (rf 3 0)), (5, (di r_89)), (20, (.tup []))] [(0, gB0), (1, gB1), (2, gB2), (3, (.var [(.dat (.sl 1 (s_31.map elB)))])), (8, (.var [(.dat (I 0)), (.dat (I 0)), (.dat (.str ([] : List UInt8))), (.dat nilS), (.dat nilS)]))]) (by kernel_rfl) ?_
  refine TL_nilQ ?_
  refine T_turn [] [0, 5] [] (mk 40 [(0, (rf 3 0)), (5, (di r_89))] [(0, gB0), (1, gB1), (2, gB2), (3, (.var [(.dat (.sl 1 (s_31.map elB)))])), (8, (.var [(.dat (I 0)), (.dat (I 0)), (.dat (.str ([] : List UInt8))), (.dat nilS), (.dat nilS)]))]) (by kernel_rfl) ?_
  obtain ⟨s_93, e94, h⟩ := sbm_inv 1 elB h
  refine T_reg (hl 7 [(6, (zd (.sl 1 (s_93.map elB))))]) [0, 5, 6] [] (mk 40 [(0, (rf 3 0)), (5, (di r_89)), (6, (dt (.sl 1 (s_93.map elB))))] [(0, gB0), (1, gB1), (2, gB2), (3, (.var [(.dat (.sl 1 (s_31.map elB)))])), (8, (.var [(.dat (I 0)), (.dat (I 0)), (.dat (.str ([] : List UInt8))), (.dat nilS), (.dat nilS)]))]) _ (by kernel_rfl) (z8 (z5 (zc e94 (z2 zt)))) ?_
  obtain ⟨c95, h⟩ := ckI_inv h
  obtain ⟨s_96, e97, h⟩ := sb_inv 1 elB h
  refine T_reg (hl 8 [(6, (zd (I (r_89 + 1)))), (7, (zd (.sl 1 (s_96.map elB))))]) [6] [] (mk 40 [(6, (dt (.sl 1 (s_93.map elB))))] [(0, gB0), (1, gB1), (2, gB2), (3, (.var [(.dat (.sl 1 (s_96.map elB)))])), (8, (.var [(.dat (I 0)), (.dat (I 0)), (.dat (.str ([] : List UInt8))), (.dat nilS), (.dat nilS)]))]) _ (by kernel_rfl) (z8 (z5 (zc c95 (z1 (zc e97 (z6 zt)))))) ?_
  refine T_reg [zn, (zd (.str s_93))] [4] [] (mk 40 [(4, (dt (.str s_93)))] [(0, gB0), (1, gB1), (2, gB2), (3, (.var [(.dat (.sl 1 (s_96.map elB)))])), (8, (.var [(.dat (I 0)), (.dat (I 0)), (.dat (.str ([] : List UInt8))), (.dat nilS), (.dat nilS)]))]) _ (by kernel_rfl) (z3 (zc (rfl : s_93.map elB = s_93.map elB) (z2 zt))) ?_
  refine T_ret ?_
  refine ⟨[(dt (.str s_93))], by kernel_rfl, ?_⟩
  refine TL_turn [] [0, 10] [] (mk 27 [(0, (rf 3 0)), (10, (dt (.str s_93)))] [(0, gB0), (1, gB1), (2, gB2), (3, (.var [(.dat (.sl 1 (s_96.map elB)))])), (8, (.var [(.dat (I 0)), (.dat (I 0)), (.dat (.str ([] : List UInt8))), (.dat nilS), (.dat nilS)]))]) (by kernel_rfl) ?_
  refine TL_part 1 [] (mk 27 [(0, (rf 3 0)), (5, (dt (.str s_93))), (10, (dt (.str s_93)))] [(0, gB0), (1, gB1), (2, gB2), (3, (.var [(.dat (.sl 1 (s_96.map elB)))])), (8, (.var [(.dat (I 0)), (.dat (I 0)), (.dat (.str ([] : List UInt8))), (.dat nilS), (.dat nilS)]))]) _ (by kernel_rfl) (z2 zt) rfl ?_
  refine TL_nilQ ?_
  refine T_turn [] [0, 5] [] (mk 27 [(0, (rf 3 0)), (5, (dt (.str s_93)))] [(0, gB0), (1, gB1), (2, gB2), (3, (.var [(.dat (.sl 1 (s_96.map elB)))])), (8, (.var [(.dat (I 0)), (.dat (I 0)), (.dat (.str ([] : List UInt8))), (.dat nilS), (.dat nilS)]))]) (by kernel_rfl) ?_
  refine T_seqJ (α := (Int) ⊕ (Unit)) (fun v => match v with | (.inl n_98) => (mk 27 [(0, (rf 3 0)), (5, (dt (.str s_93))), (6, (di n_98)), (7, (dt (.con .nilIface)))] [(0, gB0), (1, gB1), (2, gB2), (3, (.var [(.dat (.sl 1 (s_96.map elB)))])), (8, (.var [(.dat (I 0)), (.dat (I 0)), (.dat (.str ([] : List UInt8))), (.dat nilS), (.dat nilS)]))]) | (.inr _) => (mk 27 [(0, (rf 3 0)), (5, (dt (.str s_93))), (6, (dt .any)), (7, (dt (.iface 100 .any)))] [(0, gB0), (1, gB1), (2, gB2), (3, (.var [(.dat (.sl 1 (s_96.map elB)))])), (8, (.var [(.dat (I 0)), (.dat (I 0)), (.dat (.str ([] : List UInt8))), (.dat nilS), (.dat nilS)]))])) (fun v => match v with | (.inl n_98) => g__codec_reader_value_s_j10 s_93 s_96 n_98 = some r | (.inr _) => g__codec_reader_value_s_j11 s_93 s_96 = some r) (fun v h => ?_) ?_
  rcases v with v | v
  revert h; revert v; intro n_98 h
  refine T_seq (T_parts ?_)
  refine TL_part 2 [] (mk 27 [(0, (rf 3 0)), (5, (dt (.str s_93))), (6, (di n_98)), (7, (dt (.con .nilIface))), (16, (rf 3 0)), (17, (dt (.con .nilIface)))] [(0, gB0), (1, gB1), (2, gB2), (3, (.var [(.dat (.sl 1 (s_96.map elB)))])), (8, (.var [(.dat (I 0)), (.dat (I 0)), (.dat (.str ([] : List UInt8))), (.dat nilS), (.dat nilS)]))]) _ (by kernel_rfl) (z4 zt) rfl ?_
  refine TL_neNil 84 84 18 false rfl rfl rfl (by kernel_rfl) (.inr ⟨rfl, by kernel_rfl⟩) ?_
  refine TL_turn [] [5, 6, 16, 18] [] (mk 27 [(5, (dt (.str s_93))), (6, (di n_98)), (16, (rf 3 0)), (18, (db false))] [(0, gB0), (1, gB1), (2, gB2), (3, (.var [(.dat (.sl 1 (s_96.map elB)))])), (8, (.var [(.dat (I 0)), (.dat (I 0)), (.dat (.str ([] : List UInt8))), (.dat nilS), (.dat nilS)]))]) (by kernel_rfl) ?_
  refine TL_part 2 [] (mk 27 [(5, (dt (.str s_93))), (6, (di n_98)), (16, (rf 3 0)), (18, (db false)), (19, (db false)), (20, (di n_98))] [(0, gB0), (1, gB1), (2, gB2), (3, (.var [(.dat (.sl 1 (s_96.map elB)))])), (8, (.var [(.dat (I 0)), (.dat (I 0)), (.dat (.str ([] : List UInt8))), (.dat nilS), (.dat nilS)]))]) _ (by kernel_rfl) (z2 (zc (gd_ff (rfl : false = false)) (z1 zt))) rfl ?_
  refine TL_guard (p := (false == false) = true) (by kernel_rfl) (gd_ff (rfl : false = false)) ?_
  obtain ⟨c99, h⟩ := ckI_in h
  refine TL_fmtInt Tryd.lformat 21 0 n_98 rfl rfl rfl (by kernel_rfl) (by kernel_rfl) (by kernel_rfl) c99 (by kernel_rfl) ?_
  refine TL_turn [] [5, 6, 16, 19, 21] [] (mk 27 [(5, (dt (.str s_93))), (6, (di n_98)), (16, (rf 3 0)), (19, (db false)), (21, (dt (.str (Lib.itoa n_98))))] [(0, gB0), (1, gB1), (2, gB2), (3, (.var [(.dat (.sl 1 (s_96.map elB)))])), (8, (.var [(.dat (I 0)), (.dat (I 0)), (.dat (.str ([] : List UInt8))), (.dat nilS), (.dat nilS)]))]) (by kernel_rfl) ?_
  refine TL_part 3 [zn, zn, (zd (B false))] (mk 27 [(5, (dt (.str s_93))), (6, (di n_98)), (16, (rf 3 0)), (19, (db false)), (21, (dt (.str (Lib.itoa n_98)))), (22, (dt (.str s_93))), (23, (db (!((Lib.itoa n_98) == s_93)))), (24, (db (!((Lib.itoa n_98) == s_93))))] [(0, gB0), (1, gB1), (2, gB2), (3, (.var [(.dat (.sl 1 (s_96.map elB)))])), (8, (.var [(.dat (I 0)), (.dat (I 0)), (.dat (.str ([] : List UInt8))), (.dat nilS), (.dat nilS)]))]) _ (by kernel_rfl) (zc (gd_ff (rfl : false = false)) (z1 (zc (gd_ff (rfl : false = false)) (z2 (zc (rfl : false = false) zt))))) rfl ?_
  refine TL_inlineP 149 33 [] Tryd.f33 _ rfl rfl (by kernel_rfl) Tryd.func33 rfl rfl (by decide) ?_
  refine T_turn [] [0, 1] [] (mk 6 [(0, (rf 3 0)), (1, (db (!((Lib.itoa n_98) == s_93))))] [(0, gB0), (1, gB1), (2, gB2), (3, (.var [(.dat (.sl 1 (s_96.map elB)))])), (8, (.var [(.dat (I 0)), (.dat (I 0)), (.dat (.str ([] : List UInt8))), (.dat nilS), (.dat nilS)]))]) (by kernel_rfl) ?_
  refine T_reg [] [4] [] (mk 6 [(4, (db (!((Lib.itoa n_98) == s_93))))] [(0, gB0), (1, gB1), (2, gB2), (3, (.var [(.dat (.sl 1 (s_96.map elB)))])), (8, (.var [(.dat (I 0)), (.dat (I 0)), (.dat (.str ([] : List UInt8))), (.dat nilS), (.dat nilS)]))]) _ (by kernel_rfl) (z2 zt) ?_
  refine T_cond (!((Lib.itoa n_98) == s_93)) (by kernel_rfl) (fun b100 => ?_) (fun b100 => ?_)
  replace h := ite_t b100 h
  refine T_parts ?_
  refine TL_part 1 [] (mk 6 [(4, (db (!((Lib.itoa n_98) == s_93)))), (5, (dt (.iface 29 (I 20))))] [(0, gB0), (1, gB1), (2, gB2), (3, (.var [(.dat (.sl 1 (s_96.map elB)))])), (8, (.var [(.dat (I 0)), (.dat (I 0)), (.dat (.str ([] : List UInt8))), (.dat nilS), (.dat nilS)]))]) _ (by kernel_rfl) (z2 zt) rfl ?_
  refine TL_panic 29 (I 20) rfl rfl (by kernel_rfl) ?_
  obtain rfl := some_inv h
  exact (show _ ∧ _ from ⟨rfl, (show _ ∧ _ from ⟨rfl, (show _ ∧ _ from ⟨rfl, ⟨_, rfl, lk3 (by kernel_rfl) (by kernel_rfl) (by kernel_rfl)⟩⟩)⟩)⟩)
  replace h := ite_f b100 h
  refine T_skip ?_
  refine ⟨[], by kernel_rfl, ?_⟩
  refine TL_turn [] [6, 25] [] (mk 27 [(6, (di n_98)), (25, (.tup []))] [(0, gB0), (1, gB1), (2, gB2), (3, (.var [(.dat (.sl 1 (s_96.map elB)))])), (8, (.var [(.dat (I 0)), (.dat (I 0)), (.dat (.str ([] : List UInt8))), (.dat nilS), (.dat nilS)]))]) (by kernel_rfl) ?_
  refine TL_nilQ ?_
  refine T_turn [] [6] [] (mk 27 [(6, (di n_98))] [(0, gB0), (1, gB1), (2, gB2), (3, (.var [(.dat (.sl 1 (s_96.map elB)))])), (8, (.var [(.dat (I 0)), (.dat (I 0)), (.dat (.str ([] : List UInt8))), (.dat nilS), (.dat nilS)]))]) (by kernel_rfl) ?_
  refine T_reg [] [4] [] (mk 27 [(4, (di n_98))] [(0, gB0), (1, gB1), (2, gB2), (3, (.var [(.dat (.sl 1 (s_96.map elB)))])), (8, (.var [(.dat (I 0)), (.dat (I 0)), (.dat (.str ([] : List UInt8))), (.dat nilS), (.dat nilS)]))]) _ (by kernel_rfl) (z4 zt) ?_
  refine T_ret ?_
  refine ⟨[(di n_98)], by kernel_rfl, ?_⟩
  refine TL_turn [] [4, 44] [] (mk 118 [(4, (rf 8 0)), (44, (di n_98))] [(0, gB0), (1, gB1), (2, gB2), (3, (.var [(.dat (.sl 1 (s_96.map elB)))])), (8, (.var [(.dat (I 0)), (.dat (I 0)), (.dat (.str ([] : List UInt8))), (.dat nilS), (.dat nilS)]))]) (by kernel_rfl) ?_
  refine TL_part 2 [] (mk 118 [(4, (rf 8 0)), (44, (di n_98)), (45, (.agg [(.dat (I 1)), (.dat (I n_98)), (.dat (.str ([] : List UInt8))), (.dat nilS), (.dat nilS)]))] [(0, gB0), (1, gB1), (2, gB2), (3, (.var [(.dat (.sl 1 (s_96.map elB)))])), (8, (.var [(.dat (I 1)), (.dat (I n_98)), (.dat (.str ([] : List UInt8))), (.dat nilS), (.dat nilS)]))]) _ (by kernel_rfl) (z4 zt) rfl ?_
  refine TL_nilQ ?_
  refine T_turn [] [4] [] (mk 118 [(4, (rf 8 0))] [(0, gB0), (1, gB1), (2, gB2), (3, (.var [(.dat (.sl 1 (s_96.map elB)))])), (8, (.var [(.dat (I 1)), (.dat (I n_98)), (.dat (.str ([] : List UInt8))), (.dat nilS), (.dat nilS)]))]) (by kernel_rfl) ?_
  refine T_arr [.nilC 8 3 5, .nilC 8 4 1, .ice 8] [4] [8] [0, 1, 2, 3] (mk 118 [(4, (dt (.ptr [(I 1), (I n_98), (.str ([] : List UInt8)), (.sl 5 (([] : List Val).map encVal)), (.sl 1 (([] : List (List UInt8)).map elStr))])))] [(0, gB0), (1, gB1), (2, gB2), (3, (.var [(.dat (.sl 1 (s_96.map elB)))]))]) (by kernel_rfl) ?_
  refine T_ret ?_
  obtain rfl := some_inv h
  exact ⟨[(.agg [(.dat (I 1)), (.dat (I n_98)), (.dat (.str ([] : List UInt8))), (.dat (.sl 5 (([] : List Val).map encVal))), (.dat (.sl 1 (([] : List (List UInt8)).map elStr)))])], by kernel_rfl, rfl⟩
  refine T_seq (T_parts ?_)
  refine TL_part 2 [] (mk 27 [(0, (rf 3 0)), (5, (dt (.str s_93))), (6, (dt .any)), (7, (dt (.iface 100 .any))), (16, (rf 3 0)), (17, (dt (.iface 100 .any)))] [(0, gB0), (1, gB1), (2, gB2), (3, (.var [(.dat (.sl 1 (s_96.map elB)))])), (8, (.var [(.dat (I 0)), (.dat (I 0)), (.dat (.str ([] : List UInt8))), (.dat nilS), (.dat nilS)]))]) _ (by kernel_rfl) (z4 zt) rfl ?_
  refine TL_neNil 84 84 18 true rfl rfl rfl (by kernel_rfl) (.inl ⟨rfl, 100, .any, by kernel_rfl⟩) ?_
  refine TL_turn [] [5, 6, 16, 18] [] (mk 27 [(5, (dt (.str s_93))), (6, (dt .any)), (16, (rf 3 0)), (18, (db true))] [(0, gB0), (1, gB1), (2, gB2), (3, (.var [(.dat (.sl 1 (s_96.map elB)))])), (8, (.var [(.dat (I 0)), (.dat (I 0)), (.dat (.str ([] : List UInt8))), (.dat nilS), (.dat nilS)]))]) (by kernel_rfl) ?_
  refine TL_part 6 [zn, zg, zg, zg, zg, (zd (B true))] (mk 27 [(5, (dt (.str s_93))), (6, (dt .any)), (16, (rf 3 0)), (18, (db true)), (19, (db true)), (20, (dt (.tup []))), (21, (dt (.tup []))), (22, (dt (.tup []))), (23, (dt (.tup []))), (24, (db true))] [(0, gB0), (1, gB1), (2, gB2), (3, (.var [(.dat (.sl 1 (s_96.map elB)))])), (8, (.var [(.dat (I 0)), (.dat (I 0)), (.dat (.str ([] : List UInt8))), (.dat nilS), (.dat nilS)]))]) _ (by kernel_rfl) (z2 (zc (gd_tf (rfl : true = true)) (zc (gd_tf (rfl : true = true)) (zc (gd_tf (rfl : true = true)) (zc (gd_tf (rfl : true = true)) (z1 (zc (rfl : true = true) zt))))))) rfl ?_
  refine TL_inlineP 149 33 [] Tryd.f33 _ rfl rfl (by kernel_rfl) Tryd.func33 rfl rfl (by decide) ?_
  refine T_turn [] [0, 1] [] (mk 6 [(0, (rf 3 0)), (1, (db true))] [(0, gB0), (1, gB1), (2, gB2), (3, (.var [(.dat (.sl 1 (s_96.map elB)))])), (8, (.var [(.dat (I 0)), (.dat (I 0)), (.dat (.str ([] : List UInt8))), (.dat nilS), (.dat nilS)]))]) (by kernel_rfl) ?_
  refine T_reg [] [4] [] (mk 6 [(4, (db true))] [(0, gB0), (1, gB1), (2, gB2), (3, (.var [(.dat (.sl 1 (s_96.map elB)))])), (8, (.var [(.dat (I 0)), (.dat (I 0)), (.dat (.str ([] : List UInt8))), (.dat nilS), (.dat nilS)]))]) _ (by kernel_rfl) (z2 zt) ?_
  refine T_cond true (by kernel_rfl) (fun _ => ?_) (fun h => absurd (h.symm.trans (rfl : true = true)) (by decide))
  refine T_parts ?_
  refine TL_part 1 [] (mk 6 [(4, (db true)), (5, (dt (.iface 29 (I 20))))] [(0, gB0), (1, gB1), (2, gB2), (3, (.var [(.dat (.sl 1 (s_96.map elB)))])), (8, (.var [(.dat (I 0)), (.dat (I 0)), (.dat (.str ([] : List UInt8))), (.dat nilS), (.dat nilS)]))]) _ (by kernel_rfl) (z2 zt) rfl ?_
  refine TL_panic 29 (I 20) rfl rfl (by kernel_rfl) ?_
  obtain rfl := some_inv h
  exact (show _ ∧ _ from ⟨rfl, (show _ ∧ _ from ⟨rfl, (show _ ∧ _ from ⟨rfl, ⟨_, rfl, lk3 (by kernel_rfl) (by kernel_rfl) (by kernel_rfl)⟩⟩)⟩)⟩)
  refine T_parts ?_
  refine TL_part 1 [] (mk 27 [(0, (rf 3 0)), (5, (dt (.str s_93))), (12, (dt (.str s_93)))] [(0, gB0), (1, gB1), (2, gB2), (3, (.var [(.dat (.sl 1 (s_96.map elB)))])), (8, (.var [(.dat (I 0)), (.dat (I 0)), (.dat (.str ([] : List UInt8))), (.dat nilS), (.dat nilS)]))]) _ (by kernel_rfl) (z2 zt) rfl ?_
  obtain ⟨c101, h⟩ := ck_inv h
  refine TL_parseInt Tryd.lparse 13 1 2 s_93 rfl rfl rfl (by kernel_rfl) (by kernel_rfl) (by kernel_rfl) (by kernel_rfl) c101 (by kernel_rfl) (by kernel_rfl) (fun n_102 p103 => ?_) (fun p103 => ?_)
  replace h := onP_some h p103
  refine TL_turn [] [0, 5, 13] [] (mk 27 [(0, (rf 3 0)), (5, (dt (.str s_93))), (13, (.tup [(false, [(.dat (I n_102))]), (false, [(.dat (.con .nilIface))])]))] [(0, gB0), (1, gB1), (2, gB2), (3, (.var [(.dat (.sl 1 (s_96.map elB)))])), (8, (.var [(.dat (I 0)), (.dat (I 0)), (.dat (.str ([] : List UInt8))), (.dat nilS), (.dat nilS)]))]) (by kernel_rfl) ?_
  refine TL_part 5 [] (mk 27 [(0, (rf 3 0)), (5, (dt (.str s_93))), (6, (di n_102)), (7, (dt (.con .nilIface))), (11, (.tup [(false, [(.dat (I n_102))]), (false, [(.dat (.con .nilIface))])])), (13, (.tup [(false, [(.dat (I n_102))]), (false, [(.dat (.con .nilIface))])])), (14, (di n_102)), (15, (dt (.con .nilIface)))] [(0, gB0), (1, gB1), (2, gB2), (3, (.var [(.dat (.sl 1 (s_96.map elB)))])), (8, (.var [(.dat (I 0)), (.dat (I 0)), (.dat (.str ([] : List UInt8))), (.dat nilS), (.dat nilS)]))]) _ (by kernel_rfl) (z8 (z2 zt)) rfl ?_
  refine TL_nilQ ?_
  exact Exists.intro (.inl n_102) (And.intro h (arr [] [0, 5, 6, 7] [] [0, 1, 2, 3, 8] (by kernel_rfl)))
  replace h := onP_none h p103
  refine TL_turn [] [0, 5, 13] [] (mk 27 [(0, (rf 3 0)), (5, (dt (.str s_93))), (13, (.tup [(false, [(.dat .any)]), (false, [(.dat (.iface 100 .any))])]))] [(0, gB0), (1, gB1), (2, gB2), (3, (.var [(.dat (.sl 1 (s_96.map elB)))])), (8, (.var [(.dat (I 0)), (.dat (I 0)), (.dat (.str ([] : List UInt8))), (.dat nilS), (.dat nilS)]))]) (by kernel_rfl) ?_
  refine TL_part 5 [] (mk 27 [(0, (rf 3 0)), (5, (dt (.str s_93))), (6, (dt .any)), (7, (dt (.iface 100 .any))), (11, (.tup [(false, [(.dat .any)]), (false, [(.dat (.iface 100 .any))])])), (13, (.tup [(false, [(.dat .any)]), (false, [(.dat (.iface 100 .any))])])), (14, (dt .any)), (15, (dt (.iface 100 .any)))] [(0, gB0), (1, gB1), (2, gB2), (3, (.var [(.dat (.sl 1 (s_96.map elB)))])), (8, (.var [(.dat (I 0)), (.dat (I 0)), (.dat (.str ([] : List UInt8))), (.dat nilS), (.dat nilS)]))]) _ (by kernel_rfl) (z8 (z2 zt)) rfl ?_
  refine TL_nilQ ?_
  exact Exists.intro (.inr ()) (And.intro h (arr [] [0, 5, 6, 7] [] [0, 1, 2, 3, 8] (by kernel_rfl)))
  replace h := ite_f b88 h
  refine T_reg [] [0, 1, 4, 38, 46] [] (mk 118 [(0, (rf 3 0)), (1, (di depth_2)), (4, (rf 8 0)), (38, (dt (.int .u8 ((x_4.toNat : Nat) : Int)))), (46, (db (((x_4.toNat : Nat) : Int) == 108)))] [(0, gB0), (1, gB1), (2, gB2), (3, (.var [(.dat (.sl 1 (s_31.map elB)))])), (8, (.var [(.dat (I 0)), (.dat (I 0)), (.dat (.str ([] : List UInt8))), (.dat nilS), (.dat nilS)]))]) _ (by kernel_rfl) (z4 zt) ?_
  refine T_cond (((x_4.toNat : Nat) : Int) == 108) (by kernel_rfl) (fun b104 => ?_) (fun b104 => ?_)
  replace h := ite_t b104 h
  exact T_regJ [] [] [0, 1, 4] [] [0, 1, 2, 3, 8] _ _ (by kernel_rfl) (z4 zt) (fun s hs => Exists.intro 3 (And.intro h hs))
  replace h := ite_f b104 h
  refine T_reg [] [0, 1, 4, 49] [] (mk 118 [(0, (rf 3 0)), (1, (di depth_2)), (4, (rf 8 0)), (49, (db (((x_4.toNat : Nat) : Int) == 100)))] [(0, gB0), (1, gB1), (2, gB2), (3, (.var [(.dat (.sl 1 (s_31.map elB)))])), (8, (.var [(.dat (I 0)), (.dat (I 0)), (.dat (.str ([] : List UInt8))), (.dat nilS), (.dat nilS)]))]) _ (by kernel_rfl) (z4 zt) ?_
  refine T_cond (((x_4.toNat : Nat) : Int) == 100) (by kernel_rfl) (fun b105 => ?_) (fun b105 => ?_)
  replace h := ite_t b105 h
  exact T_regJ [] [] [0, 1, 4] [] [0, 1, 2, 3, 8] _ _ (by kernel_rfl) (z4 zt) (fun s hs => Exists.intro 4 (And.intro h hs))
  replace h := ite_f b105 h
  refine T_parts ?_
  refine TL_part 1 [] (mk 118 [(0, (rf 3 0)), (1, (di depth_2)), (4, (rf 8 0)), (39, (rf 3 0)), (49, (db (((x_4.toNat : Nat) : Int) == 100)))] [(0, gB0), (1, gB1), (2, gB2), (3, (.var [(.dat (.sl 1 (s_31.map elB)))])), (8, (.var [(.dat (I 0)), (.dat (I 0)), (.dat (.str ([] : List UInt8))), (.dat nilS), (.dat nilS)]))]) _ (by kernel_rfl) (z2 zt) rfl ?_
  refine TL_inlineP 122 33 [] Tryd.f33 _ rfl rfl (by kernel_rfl) Tryd.func33 rfl rfl (by decide) ?_
  refine T_turn [] [0, 1] [] (mk 6 [(0, (rf 3 0)), (1, (db true))] [(0, gB0), (1, gB1), (2, gB2), (3, (.var [(.dat (.sl 1 (s_31.map elB)))])), (8, (.var [(.dat (I 0)), (.dat (I 0)), (.dat (.str ([] : List UInt8))), (.dat nilS), (.dat nilS)]))]) (by kernel_rfl) ?_
  refine T_reg [] [4] [] (mk 6 [(4, (db true))] [(0, gB0), (1, gB1), (2, gB2), (3, (.var [(.dat (.sl 1 (s_31.map elB)))])), (8, (.var [(.dat (I 0)), (.dat (I 0)), (.dat (.str ([] : List UInt8))), (.dat nilS), (.dat nilS)]))]) _ (by kernel_rfl) (z2 zt) ?_
  refine T_cond true (by kernel_rfl) (fun _ => ?_) (fun h => absurd (h.symm.trans (rfl : true = true)) (by decide))
  refine T_parts ?_
  refine TL_part 1 [] (mk 6 [(4, (db true)), (5, (dt (.iface 29 (I 20))))] [(0, gB0), (1, gB1), (2, gB2), (3, (.var [(.dat (.sl 1 (s_31.map elB)))])), (8, (.var [(.dat (I 0)), (.dat (I 0)), (.dat (.str ([] : List UInt8))), (.dat nilS), (.dat nilS)]))]) _ (by kernel_rfl) (z2 zt) rfl ?_
  refine TL_panic 29 (I 20) rfl rfl (by kernel_rfl) ?_
  obtain rfl := some_inv h
  exact (show _ ∧ _ from ⟨rfl, (show _ ∧ _ from ⟨rfl, ⟨_, rfl, lk3 (by kernel_rfl) (by kernel_rfl) (by kernel_rfl)⟩⟩)⟩)
  rcases Bool.eq_false_or_eq_true (decide (((x_4.toNat : Nat) : Int) ≥ 48)) with b106 | b106
  replace h := ite_t b106 h
  exact T_regJ (hl 6 [(5, (zd (B true)))]) [] [0, 1, 4, 5, 26] [] [0, 1, 2, 3, 8] _ _ (by kernel_rfl) (z6 (zc (gd_tt b106) (z1 (zc (gd_tt b106) (z2 (zc b106 zt)))))) (fun s hs => Exists.intro (decide (((x_4.toNat : Nat) : Int) ≤ 57)) (And.intro h hs))
  replace h := ite_f b106 h
  exact T_regJ [zn, zn, zn, zg, zg, (zd (B false))] [] [0, 1, 4, 5, 26] [] [0, 1, 2, 3, 8] _ _ (by kernel_rfl) (z6 (zc (gd_ft b106) (zc (gd_ft b106) (z1 (zc b106 zt))))) (fun s hs => Exists.intro false (And.intro h hs))
theorem g__codec_reader_value_ret : ∀ {fu : Nat} {r_1 : Reader} {depth_2 : Int} {r : (Val × Reader) ⊕ Unit}, g__codec_reader_value fu r_1 depth_2 = some r → CT Tryd.prog 32 4 [(rf 3 0), (di depth_2)] [(0, gB0), (1, gB1), (2, gB2), (3, (.var [(.dat (.sl 1 (r_1.rest.map elB)))]))] (CoR 3 ghosts (fun x => ((.agg (qVal x.1)), [(0, gB0), (1, gB1), (2, gB2), (3, (.var [(.dat (.sl 1 (x.2.rest.map elB)))]))])) (.iface 29 (.int .i64 20)) r)
  | 0, _, _, _, h => by cases h
  | fu + 1, _, _, _, h => g__codec_reader_value_s_ret (fun {_} {_} {_} h => g__codec_reader_value_ret h) h

end Go.Proofs.YtimalbkjflfdoaaDoor

namespace Go.Proofs.YtimalbkjflfdoaaDoor
open Go.DL
set_option maxRecDepth 100000
set_option maxHeartbeats 4000000
structure Assizeref02Reader where
  B : List UInt8
  At : Int
  Bad : Bool
  deriving DecidableEq
abbrev qAssizeref02Reader (x : Assizeref02Reader) : List C := [.dat (.sl 1 (x.B.map elB)), .dat (I x.At), .dat (B (x.Bad))]
noncomputable def g__ref02_Reader_text_j2 (r_1 : Assizeref02Reader) (v_3 : Int) (v_2 : Int) (v_4 : Bool) (v_5 : Bool) : Option (((List UInt8) × Assizeref02Reader) ⊕ Unit) :=
  if (v_5) = true then (some (.inl (([] : List UInt8), (⟨r_1.B, v_3, true⟩ : Assizeref02Reader)))) else ckI (v_2) <| ckI (v_3 + v_2) <| sb r_1.B (some v_3) (some (v_3 + v_2)) fun s_9 => some (.inl (s_9, (⟨r_1.B, (v_3 + v_2), (v_4)⟩ : Assizeref02Reader)))
noncomputable def g__ref02_Reader_text_j1 (r_1 : Assizeref02Reader) (v_2 : Int) (v_3 : Int) (v_4 : Bool) : Option (((List UInt8) × Assizeref02Reader) ⊕ Unit) :=
  if (v_4) = true then (g__ref02_Reader_text_j2 r_1 v_3 v_2 v_4 true) else ckI (v_2) <| ckI (((r_1.B.length : Nat) : Int) - v_3) <| g__ref02_Reader_text_j2 r_1 v_3 v_2 v_4 (decide (v_2 > (((r_1.B.length : Nat) : Int) - v_3)))
noncomputable def g__ref02_Reader_text_j4 (v_15 : Int) (r_1 : Assizeref02Reader) (n_14 : Int) (v_17 : Bool) : Option (((List UInt8) × Assizeref02Reader) ⊕ Unit) :=
  ckI (v_15 + 1) <| g__ref02_Reader_text_j1 r_1 n_14 (v_15 + 1) (v_17)
noncomputable def g__ref02_Reader_text_j5 (v_15 : Int) (r_1 : Assizeref02Reader) (n_14 : Int) (v_16 : Bool) (v_19 : Bool) : Option (((List UInt8) × Assizeref02Reader) ⊕ Unit) :=
  if (v_19) = true then (g__ref02_Reader_text_j4 v_15 r_1 n_14 true) else g__ref02_Reader_text_j4 v_15 r_1 n_14 (v_16)
noncomputable def g__ref02_Reader_text_j3 (r_1 : Assizeref02Reader) (n_14 : Int) (v_15 : Int) (v_16 : Bool) : Option (((List UInt8) × Assizeref02Reader) ⊕ Unit) :=
  if (v_15 == r_1.At) = true then (g__ref02_Reader_text_j5 v_15 r_1 n_14 v_16 true) else g__ref02_Reader_text_j5 v_15 r_1 n_14 v_16 (decide (n_14 > (IntKind.u64.wrap ((r_1.B.length : Nat) : Int))))
noncomputable def g__ref02_Reader_text_j9 (r_1 : Assizeref02Reader) (v_23 : Int) (n_22 : Int) (v_31 : Int) (v_32 : Bool) (v_33 : Bool) : Option ((Int × Int × Bool) ⊕ (((List UInt8) × Assizeref02Reader) ⊕ Unit)) :=
  if (v_33) = true then (up (g__ref02_Reader_text_j1 r_1 0 v_23 true)) else ckI (v_23 + 1) <| some (.inl ((IntKind.u64.wrap ((IntKind.u64.wrap (10 * n_22)) + (IntKind.u64.wrap (IntKind.u8.wrap (v_31 - 48))))), (v_23 + 1), (v_32)))
noncomputable def g__ref02_Reader_text_j8 (r_1 : Assizeref02Reader) (v_23 : Int) (n_22 : Int) (v_31 : Int) (v_32 : Bool) : Option ((Int × Int × Bool) ⊕ (((List UInt8) × Assizeref02Reader) ⊕ Unit)) :=
  if (decide (v_31 < 48)) = true then (g__ref02_Reader_text_j9 r_1 v_23 n_22 v_31 v_32 true) else if (decide (v_31 > 57)) = true then (g__ref02_Reader_text_j9 r_1 v_23 n_22 v_31 v_32 true) else ckI (v_23 - r_1.At) <| if (decide ((v_23 - r_1.At) > 18)) = true then (g__ref02_Reader_text_j9 r_1 v_23 n_22 v_31 v_32 true) else if (decide (v_23 > r_1.At)) = true then (gt r_1.B r_1.At fun x_41 => g__ref02_Reader_text_j9 r_1 v_23 n_22 v_31 v_32 (((x_41.toNat : Nat) : Int) == 48)) else g__ref02_Reader_text_j9 r_1 v_23 n_22 v_31 v_32 false
noncomputable def g__ref02_Reader_text_j7 (v_23 : Int) (r_1 : Assizeref02Reader) (n_22 : Int) (v_28 : Bool) (v_29 : Bool) : Option ((Int × Int × Bool) ⊕ (((List UInt8) × Assizeref02Reader) ⊕ Unit)) :=
  if (v_28) = true then (if (decide (v_23 < ((r_1.B.length : Nat) : Int))) = true then (gt r_1.B v_23 fun x_46 => g__ref02_Reader_text_j8 r_1 v_23 n_22 ((x_46.toNat : Nat) : Int) (v_29)) else g__ref02_Reader_text_j8 r_1 v_23 n_22 0 true) else up (g__ref02_Reader_text_j3 r_1 n_22 v_23 (v_29))
noncomputable def g__ref02_Reader_text_j10 (v_23 : Int) (r_1 : Assizeref02Reader) (n_22 : Int) (v_24 : Bool) (v_51 : Int) (v_52 : Bool) : Option ((Int × Int × Bool) ⊕ (((List UInt8) × Assizeref02Reader) ⊕ Unit)) :=
  g__ref02_Reader_text_j7 v_23 r_1 n_22 (v_51 != 58) (v_52)
noncomputable def g__ref02_Reader_text_l6 (r_1 : Assizeref02Reader) (v : Int × Int × Bool) : Option ((Int × Int × Bool) ⊕ (((List UInt8) × Assizeref02Reader) ⊕ Unit)) :=
  match v with | (n_22, v_23, v_24) => if (!(v_24)) = true then (if (decide (v_23 < ((r_1.B.length : Nat) : Int))) = true then (gt r_1.B v_23 fun x_54 => g__ref02_Reader_text_j10 v_23 r_1 n_22 v_24 ((x_54.toNat : Nat) : Int) (v_24)) else g__ref02_Reader_text_j10 v_23 r_1 n_22 v_24 0 true) else g__ref02_Reader_text_j7 v_23 r_1 n_22 false (v_24)
noncomputable def g__ref02_Reader_text (r_1 : Assizeref02Reader) : Option (((List UInt8) × Assizeref02Reader) ⊕ Unit) :=
  loopO (g__ref02_Reader_text_l6 r_1) (0, r_1.At, (r_1.Bad))
noncomputable def g__ref02_Reader_Value_s_j3 (r_1 : Assizeref02Reader) (v_11 : Int) (v_12 : Int) (v_13 : Bool) : Option ((Val × Assizeref02Reader) ⊕ Unit) :=
  some (.inl ((⟨1, (IntKind.i64.wrap v_11), ([] : List UInt8), ([] : List Val), ([] : List (List UInt8))⟩ : Val), (⟨r_1.B, v_12, (v_13)⟩ : Assizeref02Reader)))
noncomputable def g__ref02_Reader_Value_s_j5 (v_15 : Int) (r_1 : Assizeref02Reader) (n_14 : Int) (v_17 : Bool) : Option ((Val × Assizeref02Reader) ⊕ Unit) :=
  ckI (v_15 + 1) <| g__ref02_Reader_Value_s_j3 r_1 n_14 (v_15 + 1) (v_17)
noncomputable def g__ref02_Reader_Value_s_j6 (v_15 : Int) (r_1 : Assizeref02Reader) (n_14 : Int) (v_16 : Bool) (v_19 : Bool) : Option ((Val × Assizeref02Reader) ⊕ Unit) :=
  if (v_19) = true then (g__ref02_Reader_Value_s_j5 v_15 r_1 n_14 true) else g__ref02_Reader_Value_s_j5 v_15 r_1 n_14 (v_16)
noncomputable def g__ref02_Reader_Value_s_j4 (r_1 : Assizeref02Reader) (n_14 : Int) (v_15 : Int) (v_16 : Bool) : Option ((Val × Assizeref02Reader) ⊕ Unit) :=
  if (v_15 == (r_1.At + 1)) = true then (g__ref02_Reader_Value_s_j6 v_15 r_1 n_14 v_16 true) else g__ref02_Reader_Value_s_j6 v_15 r_1 n_14 v_16 (decide (n_14 > 9223372036854775807))
noncomputable def g__ref02_Reader_Value_s_j10 (r_1 : Assizeref02Reader) (v_23 : Int) (n_22 : Int) (v_31 : Int) (v_32 : Bool) (v_33 : Bool) : Option ((Int × Int × Bool) ⊕ ((Val × Assizeref02Reader) ⊕ Unit)) :=
  if (v_33) = true then (up (g__ref02_Reader_Value_s_j3 r_1 0 v_23 true)) else ckI (v_23 + 1) <| some (.inl ((IntKind.u64.wrap ((IntKind.u64.wrap (10 * n_22)) + (IntKind.u64.wrap (IntKind.u8.wrap (v_31 - 48))))), (v_23 + 1), (v_32)))
noncomputable def g__ref02_Reader_Value_s_j9 (r_1 : Assizeref02Reader) (v_23 : Int) (n_22 : Int) (v_31 : Int) (v_32 : Bool) : Option ((Int × Int × Bool) ⊕ ((Val × Assizeref02Reader) ⊕ Unit)) :=
  if (decide (v_31 < 48)) = true then (g__ref02_Reader_Value_s_j10 r_1 v_23 n_22 v_31 v_32 true) else if (decide (v_31 > 57)) = true then (g__ref02_Reader_Value_s_j10 r_1 v_23 n_22 v_31 v_32 true) else ckI (v_23 - (r_1.At + 1)) <| if (decide ((v_23 - (r_1.At + 1)) > 18)) = true then (g__ref02_Reader_Value_s_j10 r_1 v_23 n_22 v_31 v_32 true) else if (decide (v_23 > (r_1.At + 1))) = true then (gt r_1.B (r_1.At + 1) fun x_41 => g__ref02_Reader_Value_s_j10 r_1 v_23 n_22 v_31 v_32 (((x_41.toNat : Nat) : Int) == 48)) else g__ref02_Reader_Value_s_j10 r_1 v_23 n_22 v_31 v_32 false
noncomputable def g__ref02_Reader_Value_s_j8 (v_23 : Int) (r_1 : Assizeref02Reader) (n_22 : Int) (v_28 : Bool) (v_29 : Bool) : Option ((Int × Int × Bool) ⊕ ((Val × Assizeref02Reader) ⊕ Unit)) :=
  if (v_28) = true then (if (decide (v_23 < ((r_1.B.length : Nat) : Int))) = true then (gt r_1.B v_23 fun x_46 => g__ref02_Reader_Value_s_j9 r_1 v_23 n_22 ((x_46.toNat : Nat) : Int) (v_29)) else g__ref02_Reader_Value_s_j9 r_1 v_23 n_22 0 true) else up (g__ref02_Reader_Value_s_j4 r_1 n_22 v_23 (v_29))
noncomputable def g__ref02_Reader_Value_s_j11 (v_23 : Int) (r_1 : Assizeref02Reader) (n_22 : Int) (v_24 : Bool) (v_51 : Int) (v_52 : Bool) : Option ((Int × Int × Bool) ⊕ ((Val × Assizeref02Reader) ⊕ Unit)) :=
  g__ref02_Reader_Value_s_j8 v_23 r_1 n_22 (v_51 != 101) (v_52)
noncomputable def g__ref02_Reader_Value_s_l7 (r_1 : Assizeref02Reader) (v : Int × Int × Bool) : Option ((Int × Int × Bool) ⊕ ((Val × Assizeref02Reader) ⊕ Unit)) :=
  match v with | (n_22, v_23, v_24) => if (!(v_24)) = true then (if (decide (v_23 < ((r_1.B.length : Nat) : Int))) = true then (gt r_1.B v_23 fun x_54 => g__ref02_Reader_Value_s_j11 v_23 r_1 n_22 v_24 ((x_54.toNat : Nat) : Int) (v_24)) else g__ref02_Reader_Value_s_j11 v_23 r_1 n_22 v_24 0 true) else g__ref02_Reader_Value_s_j8 v_23 r_1 n_22 false (v_24)
noncomputable def g__ref02_Reader_Value_s_j12 (r_1 : Assizeref02Reader) (v_59 : Int) (v_60 : Int) (v_61 : Bool) : Option ((Val × Assizeref02Reader) ⊕ Unit) :=
  if (v_59 == 0) = true then (some (.inl ((⟨0, 0, ([] : List UInt8), ([] : List Val), ([] : List (List UInt8))⟩ : Val), (⟨r_1.B, v_60, true⟩ : Assizeref02Reader)))) else some (.inl ((⟨1, (IntKind.i64.wrap ((IntKind.i64.wrap (0 - (IntKind.i64.wrap (IntKind.u64.wrap (v_59 - 1))))) - 1)), ([] : List UInt8), ([] : List Val), ([] : List (List UInt8))⟩ : Val), (⟨r_1.B, v_60, (v_61)⟩ : Assizeref02Reader)))
noncomputable def g__ref02_Reader_Value_s_j14 (v_64 : Int) (r_1 : Assizeref02Reader) (n_63 : Int) (v_66 : Bool) : Option ((Val × Assizeref02Reader) ⊕ Unit) :=
  ckI (v_64 + 1) <| g__ref02_Reader_Value_s_j12 r_1 n_63 (v_64 + 1) (v_66)
noncomputable def g__ref02_Reader_Value_s_j15 (v_64 : Int) (r_1 : Assizeref02Reader) (n_63 : Int) (v_65 : Bool) (v_68 : Bool) : Option ((Val × Assizeref02Reader) ⊕ Unit) :=
  if (v_68) = true then (g__ref02_Reader_Value_s_j14 v_64 r_1 n_63 true) else g__ref02_Reader_Value_s_j14 v_64 r_1 n_63 (v_65)
noncomputable def g__ref02_Reader_Value_s_j13 (r_1 : Assizeref02Reader) (n_63 : Int) (v_64 : Int) (v_65 : Bool) : Option ((Val × Assizeref02Reader) ⊕ Unit) :=
  if (v_64 == ((r_1.At + 1) + 1)) = true then (g__ref02_Reader_Value_s_j15 v_64 r_1 n_63 v_65 true) else g__ref02_Reader_Value_s_j15 v_64 r_1 n_63 v_65 (decide (n_63 > 9223372036854775808))
noncomputable def g__ref02_Reader_Value_s_j19 (r_1 : Assizeref02Reader) (v_72 : Int) (n_71 : Int) (v_80 : Int) (v_81 : Bool) (v_82 : Bool) : Option ((Int × Int × Bool) ⊕ ((Val × Assizeref02Reader) ⊕ Unit)) :=
  if (v_82) = true then (up (g__ref02_Reader_Value_s_j12 r_1 0 v_72 true)) else ckI (v_72 + 1) <| some (.inl ((IntKind.u64.wrap ((IntKind.u64.wrap (10 * n_71)) + (IntKind.u64.wrap (IntKind.u8.wrap (v_80 - 48))))), (v_72 + 1), (v_81)))
noncomputable def g__ref02_Reader_Value_s_j18 (r_1 : Assizeref02Reader) (v_72 : Int) (n_71 : Int) (v_80 : Int) (v_81 : Bool) : Option ((Int × Int × Bool) ⊕ ((Val × Assizeref02Reader) ⊕ Unit)) :=
  if (decide (v_80 < 48)) = true then (g__ref02_Reader_Value_s_j19 r_1 v_72 n_71 v_80 v_81 true) else if (decide (v_80 > 57)) = true then (g__ref02_Reader_Value_s_j19 r_1 v_72 n_71 v_80 v_81 true) else ckI (v_72 - ((r_1.At + 1) + 1)) <| if (decide ((v_72 - ((r_1.At + 1) + 1)) > 18)) = true then (g__ref02_Reader_Value_s_j19 r_1 v_72 n_71 v_80 v_81 true) else if (decide (v_72 > ((r_1.At + 1) + 1))) = true then (gt r_1.B ((r_1.At + 1) + 1) fun x_90 => g__ref02_Reader_Value_s_j19 r_1 v_72 n_71 v_80 v_81 (((x_90.toNat : Nat) : Int) == 48)) else g__ref02_Reader_Value_s_j19 r_1 v_72 n_71 v_80 v_81 false
noncomputable def g__ref02_Reader_Value_s_j17 (v_72 : Int) (r_1 : Assizeref02Reader) (n_71 : Int) (v_77 : Bool) (v_78 : Bool) : Option ((Int × Int × Bool) ⊕ ((Val × Assizeref02Reader) ⊕ Unit)) :=
  if (v_77) = true then (if (decide (v_72 < ((r_1.B.length : Nat) : Int))) = true then (gt r_1.B v_72 fun x_95 => g__ref02_Reader_Value_s_j18 r_1 v_72 n_71 ((x_95.toNat : Nat) : Int) (v_78)) else g__ref02_Reader_Value_s_j18 r_1 v_72 n_71 0 true) else up (g__ref02_Reader_Value_s_j13 r_1 n_71 v_72 (v_78))
noncomputable def g__ref02_Reader_Value_s_j20 (v_72 : Int) (r_1 : Assizeref02Reader) (n_71 : Int) (v_73 : Bool) (v_100 : Int) (v_101 : Bool) : Option ((Int × Int × Bool) ⊕ ((Val × Assizeref02Reader) ⊕ Unit)) :=
  g__ref02_Reader_Value_s_j17 v_72 r_1 n_71 (v_100 != 101) (v_101)
noncomputable def g__ref02_Reader_Value_s_l16 (r_1 : Assizeref02Reader) (v : Int × Int × Bool) : Option ((Int × Int × Bool) ⊕ ((Val × Assizeref02Reader) ⊕ Unit)) :=
  match v with | (n_71, v_72, v_73) => if (!(v_73)) = true then (if (decide (v_72 < ((r_1.B.length : Nat) : Int))) = true then (gt r_1.B v_72 fun x_103 => g__ref02_Reader_Value_s_j20 v_72 r_1 n_71 v_73 ((x_103.toNat : Nat) : Int) (v_73)) else g__ref02_Reader_Value_s_j20 v_72 r_1 n_71 v_73 0 true) else g__ref02_Reader_Value_s_j17 v_72 r_1 n_71 false (v_73)
noncomputable def g__ref02_Reader_Value_s_j2 (r_1 : Assizeref02Reader) (v_8 : Int) (v_9 : Bool) : Option ((Val × Assizeref02Reader) ⊕ Unit) :=
  if (v_8 != 45) = true then (loopO (g__ref02_Reader_Value_s_l7 r_1) (0, (r_1.At + 1), (v_9))) else ckI ((r_1.At + 1) + 1) <| loopO (g__ref02_Reader_Value_s_l16 r_1) (0, ((r_1.At + 1) + 1), (v_9))
noncomputable def g__ref02_Reader_Value_s_j23 (v_120 : Int) (v_121 : List UInt8) (v_122 : Int) (v_123 : Bool) (l_124 : List Val) (l_125 : List (List UInt8)) : Option ((Val × Assizeref02Reader) ⊕ Unit) :=
  ckI (v_122 + 1) <| some (.inl ((⟨v_120, 0, ([] : List UInt8), l_124, l_125⟩ : Val), (⟨v_121, (v_122 + 1), (v_123)⟩ : Assizeref02Reader)))
noncomputable def g__ref02_Reader_Value_s_j26 (depth_2 : Int) (rc : (Assizeref02Reader) → (Int) → Option ((Val × Assizeref02Reader) ⊕ Unit)) (l_130 : List Val) (v_3 : Int) (v_120 : Int) (v_140 : List UInt8) (v_141 : Int) (v_142 : Bool) (l_143 : List (List UInt8)) : Option (((List UInt8) × Int × Bool × (List Val) × (List (List UInt8))) ⊕ ((Val × Assizeref02Reader) ⊕ Unit)) :=
  ckI (depth_2 + 1) <| bdP (rc (⟨v_140, v_141, (v_142)⟩ : Assizeref02Reader) (depth_2 + 1)) (fun r_145 => ck ((l_130.length + ([r_145.1]).length) * 80 ≤ 140737488355328) <| some (.inl (r_145.2.B, r_145.2.At, (r_145.2.Bad), (l_130 ++ [r_145.1]), l_143))) (up (some (.inr ())))
noncomputable def g__ref02_Reader_Value_s_j25 (v_3 : Int) (v_127 : List UInt8) (v_128 : Int) (l_131 : List (List UInt8)) (depth_2 : Int) (rc : (Assizeref02Reader) → (Int) → Option ((Val × Assizeref02Reader) ⊕ Unit)) (l_130 : List Val) (v_120 : Int) (v_137 : Bool) (v_138 : Bool) : Option (((List UInt8) × Int × Bool × (List Val) × (List (List UInt8))) ⊕ ((Val × Assizeref02Reader) ⊕ Unit)) :=
  if (v_137) = true then (if (v_3 == 100) = true then (bdP (g__ref02_Reader_text (⟨v_127, v_128, (v_138)⟩ : Assizeref02Reader)) (fun r_152 => ck ((l_131.length + ([r_152.1]).length) * 16 ≤ 140737488355328) <| g__ref02_Reader_Value_s_j26 depth_2 rc l_130 v_3 v_120 r_152.2.B r_152.2.At (r_152.2.Bad) (l_131 ++ [r_152.1])) (up (some (.inr ())))) else g__ref02_Reader_Value_s_j26 depth_2 rc l_130 v_3 v_120 v_127 v_128 (v_138) l_131) else up (g__ref02_Reader_Value_s_j23 v_120 v_127 v_128 (v_138) l_130 l_131)
noncomputable def g__ref02_Reader_Value_s_j27 (v_3 : Int) (v_127 : List UInt8) (v_128 : Int) (l_131 : List (List UInt8)) (depth_2 : Int) (rc : (Assizeref02Reader) → (Int) → Option ((Val × Assizeref02Reader) ⊕ Unit)) (l_130 : List Val) (v_120 : Int) (v_129 : Bool) (v_159 : Int) (v_160 : Bool) : Option (((List UInt8) × Int × Bool × (List Val) × (List (List UInt8))) ⊕ ((Val × Assizeref02Reader) ⊕ Unit)) :=
  g__ref02_Reader_Value_s_j25 v_3 v_127 v_128 l_131 depth_2 rc l_130 v_120 (v_159 != 101) (v_160)
noncomputable def g__ref02_Reader_Value_s_l24 (v_3 : Int) (depth_2 : Int) (rc : (Assizeref02Reader) → (Int) → Option ((Val × Assizeref02Reader) ⊕ Unit)) (v_120 : Int) (v : (List UInt8) × Int × Bool × (List Val) × (List (List UInt8))) : Option (((List UInt8) × Int × Bool × (List Val) × (List (List UInt8))) ⊕ ((Val × Assizeref02Reader) ⊕ Unit)) :=
  match v with | (v_127, v_128, v_129, l_130, l_131) => if (!(v_129)) = true then (if (decide (v_128 < ((v_127.length : Nat) : Int))) = true then (gt v_127 v_128 fun x_162 => g__ref02_Reader_Value_s_j27 v_3 v_127 v_128 l_131 depth_2 rc l_130 v_120 v_129 ((x_162.toNat : Nat) : Int) (v_129)) else g__ref02_Reader_Value_s_j27 v_3 v_127 v_128 l_131 depth_2 rc l_130 v_120 v_129 0 true) else g__ref02_Reader_Value_s_j25 v_3 v_127 v_128 l_131 depth_2 rc l_130 v_120 false (v_129)
noncomputable def g__ref02_Reader_Value_s_j22 (v_3 : Int) (depth_2 : Int) (rc : (Assizeref02Reader) → (Int) → Option ((Val × Assizeref02Reader) ⊕ Unit)) (r_1 : Assizeref02Reader) (v_4 : Bool) (v_120 : Int) : Option ((Val × Assizeref02Reader) ⊕ Unit) :=
  loopO (g__ref02_Reader_Value_s_l24 v_3 depth_2 rc v_120) (r_1.B, (r_1.At + 1), (depth_2 == 16), ([] : List Val), ([] : List (List UInt8)))
noncomputable def g__ref02_Reader_Value_s_j21 (r_1 : Assizeref02Reader) (v_4 : Bool) (v_3 : Int) (depth_2 : Int) (rc : (Assizeref02Reader) → (Int) → Option ((Val × Assizeref02Reader) ⊕ Unit)) (v_112 : Bool) : Option ((Val × Assizeref02Reader) ⊕ Unit) :=
  if (v_112) = true then (bdP (g__ref02_Reader_text (⟨r_1.B, r_1.At, (v_4)⟩ : Assizeref02Reader)) (fun r_114 => some (.inl ((⟨2, 0, r_114.1, ([] : List Val), ([] : List (List UInt8))⟩ : Val), (⟨r_114.2.B, r_114.2.At, (r_114.2.Bad)⟩ : Assizeref02Reader)))) (some (.inr ()))) else ckI (r_1.At + 1) <| if (v_3 == 100) = true then (g__ref02_Reader_Value_s_j22 v_3 depth_2 rc r_1 v_4 4) else g__ref02_Reader_Value_s_j22 v_3 depth_2 rc r_1 v_4 3
noncomputable def g__ref02_Reader_Value_s_j1 (r_1 : Assizeref02Reader) (depth_2 : Int) (rc : (Assizeref02Reader) → (Int) → Option ((Val × Assizeref02Reader) ⊕ Unit)) (v_3 : Int) (v_4 : Bool) : Option ((Val × Assizeref02Reader) ⊕ Unit) :=
  if (v_4) = true then (some (.inl ((⟨0, 0, ([] : List UInt8), ([] : List Val), ([] : List (List UInt8))⟩ : Val), (⟨r_1.B, r_1.At, (v_4)⟩ : Assizeref02Reader)))) else if (v_3 == 105) = true then (ckI (r_1.At + 1) <| if (decide ((r_1.At + 1) < ((r_1.B.length : Nat) : Int))) = true then (gt r_1.B (r_1.At + 1) fun x_108 => g__ref02_Reader_Value_s_j2 r_1 ((x_108.toNat : Nat) : Int) (v_4)) else g__ref02_Reader_Value_s_j2 r_1 0 true) else if (v_3 != 108) = true then (g__ref02_Reader_Value_s_j21 r_1 v_4 v_3 depth_2 rc (v_3 != 100)) else g__ref02_Reader_Value_s_j21 r_1 v_4 v_3 depth_2 rc false
noncomputable def g__ref02_Reader_Value_s (rc : (Assizeref02Reader) → (Int) → Option ((Val × Assizeref02Reader) ⊕ Unit)) (r_1 : Assizeref02Reader) (depth_2 : Int) : Option ((Val × Assizeref02Reader) ⊕ Unit) :=
  if (decide (r_1.At < ((r_1.B.length : Nat) : Int))) = true then (gt r_1.B r_1.At fun x_169 => g__ref02_Reader_Value_s_j1 r_1 depth_2 rc ((x_169.toNat : Nat) : Int) (r_1.Bad)) else g__ref02_Reader_Value_s_j1 r_1 depth_2 rc 0 true
noncomputable def g__ref02_Reader_Value : Nat → (Assizeref02Reader) → (Int) → Option ((Val × Assizeref02Reader) ⊕ Unit)
  | 0 => fun _ _ => none
  | fu + 1 => g__ref02_Reader_Value_s (g__ref02_Reader_Value fu)
end Go.Proofs.YtimalbkjflfdoaaDoor

namespace Go.Proofs.YtimalbkjflfdoaaDoor
open Go.DL
set_option maxRecDepth 100000
set_option maxHeartbeats 4000000
theorem g__ref02_Reader_text_ret {r_1 : Assizeref02Reader} {r : ((List UInt8) × Assizeref02Reader) ⊕ Unit} (h : g__ref02_Reader_text r_1 = some r) : CT Tryd.prog 53 4 [(rf 3 0)] [(0, gB0), (1, gB1), (2, gB2), (3, (.var (qAssizeref02Reader r_1)))] (CoR 3 ghosts (fun x => ((dt (.str x.1)), [(0, gB0), (1, gB1), (2, gB2), (3, (.var (qAssizeref02Reader x.2)))])) (.iface 29 (.int .i64 20)) r) := by
  refine CT.of_T Tryd.func53 (by kernel_rfl) rfl ?_
  refine T_turn [] [0] [] (mk 63 [(0, (rf 3 0))] [(0, gB0), (1, gB1), (2, gB2), (3, (.var (qAssizeref02Reader r_1)))]) (by kernel_rfl) ?_
  refine T_reg [] [0] [] (mk 63 [(0, (rf 3 0))] [(0, gB0), (1, gB1), (2, gB2), (3, (.var (qAssizeref02Reader r_1)))]) _ (by kernel_rfl) (z2 zt) ?_
  refine T_seq (T_parts ?_)
  refine TL_part 7 (hl 6 [(5, (zd (I ((r_1.B.length : Nat) : Int))))]) (mk 63 [(0, (rf 3 0)), (5, (rf 3 0)), (6, (rf 3 0)), (7, (rf 3 0)), (8, (rf 3 0)), (9, (dt (.sl 1 (r_1.B.map elB)))), (10, (di ((r_1.B.length : Nat) : Int))), (11, (dt (.int .u64 (IntKind.u64.wrap ((r_1.B.length : Nat) : Int)))))] [(0, gB0), (1, gB1), (2, gB2), (3, (.var (qAssizeref02Reader r_1)))]) _ (by kernel_rfl) (z8 (z3 (zc (len_s elB r_1.B) (z2 zt)))) rfl ?_
  refine TL_consJ (α := Int × Int × Bool) (fun ((v_2, v_3, v_4) : Int × Int × Bool) => (mk 63 [(0, (rf 3 0)), (12, (dt (.int .u64 v_2)))] [(0, gB0), (1, gB1), (2, gB2), (3, (.var [(.dat (.sl 1 (r_1.B.map elB))), (.dat (I v_3)), (.dat (B (v_4)))]))])) (fun ((v_2, v_3, v_4) : Int × Int × Bool) => g__ref02_Reader_text_j1 r_1 v_2 v_3 v_4 = some r) (fun v h => ?_) ?_
  obtain ⟨v_2, v_3, v_4⟩ := v
  refine TL_turn [] [0, 12] [] (mk 63 [(0, (rf 3 0)), (12, (dt (.int .u64 v_2)))] [(0, gB0), (1, gB1), (2, gB2), (3, (.var [(.dat (.sl 1 (r_1.B.map elB))), (.dat (I v_3)), (.dat (B (v_4)))]))]) (by kernel_rfl) ?_
  refine TL_part 1 [] (mk 63 [(0, (rf 3 0)), (3, (dt (.int .u64 v_2))), (12, (dt (.int .u64 v_2)))] [(0, gB0), (1, gB1), (2, gB2), (3, (.var [(.dat (.sl 1 (r_1.B.map elB))), (.dat (I v_3)), (.dat (B (v_4)))]))]) _ (by kernel_rfl) (z2 zt) rfl ?_
  refine TL_nilQ ?_
  refine T_turn [] [0, 3] [] (mk 63 [(0, (rf 3 0)), (3, (dt (.int .u64 v_2)))] [(0, gB0), (1, gB1), (2, gB2), (3, (.var [(.dat (.sl 1 (r_1.B.map elB))), (.dat (I v_3)), (.dat (B (v_4)))]))]) (by kernel_rfl) ?_
  refine T_seq ?_
  refine T_seqJ (α := Bool) (fun (v_5 : Bool) => (mk 63 [(0, (rf 3 0)), (3, (dt (.int .u64 v_2))), (31, (db (v_5)))] [(0, gB0), (1, gB1), (2, gB2), (3, (.var [(.dat (.sl 1 (r_1.B.map elB))), (.dat (I v_3)), (.dat (B (v_4)))]))])) (fun (v_5 : Bool) => g__ref02_Reader_text_j2 r_1 v_3 v_2 v_4 v_5 = some r) (fun v_5 h => ?_) ?_
  refine T_cond (v_5) (by kernel_rfl) (fun b6 => ?_) (fun b6 => ?_)
  replace h := ite_t b6 h
  refine T_reg [] [] [] (mk 63 [] [(0, gB0), (1, gB1), (2, gB2), (3, (.var [(.dat (.sl 1 (r_1.B.map elB))), (.dat (I v_3)), (.dat (B true))]))]) _ (by kernel_rfl) (z8 zt) ?_
  refine T_reg [] [2] [] (mk 63 [(2, (dt (.str ([] : List UInt8))))] [(0, gB0), (1, gB1), (2, gB2), (3, (.var [(.dat (.sl 1 (r_1.B.map elB))), (.dat (I v_3)), (.dat (B true))]))]) _ (by kernel_rfl) (z2 zt) ?_
  refine T_arr [] [2] [] [0, 1, 2, 3] (mk 63 [(2, (dt (.str ([] : List UInt8))))] [(0, gB0), (1, gB1), (2, gB2), (3, (.var [(.dat (.sl 1 (r_1.B.map elB))), (.dat (I v_3)), (.dat (B true))]))]) (by kernel_rfl) ?_
  refine T_ret ?_
  obtain rfl := some_inv h
  exact ⟨[(dt (.str ([] : List UInt8)))], by kernel_rfl, rfl⟩
  replace h := ite_f b6 h
  refine T_skip ?_
  obtain ⟨c7, h⟩ := ckI_inv h
  obtain ⟨c8, h⟩ := ckI_inv h
  obtain ⟨s_9, e10, h⟩ := sb_inv 1 elB h
  refine T_regD 18 (hl 17 [(13, (zd (I v_2))), (14, (zd (I (v_3 + v_2)))), (15, (zd (.sl 1 (s_9.map elB)))), (16, (zd (.str s_9)))]) [0, 3, 4] [] (mk 63 [(0, (rf 3 0)), (3, (dt (.int .u64 v_2))), (4, (dt (.str s_9)))] [(0, gB0), (1, gB1), (2, gB2), (3, (.var [(.dat (.sl 1 (r_1.B.map elB))), (.dat (I v_3)), (.dat (B (v_4)))]))]) _ (by kernel_rfl) (by kernel_rfl) (by kernel_rfl) (zc (z8 (z8 (z8 (z3 (zc c7 (z1 (zc c8 (z1 (zc e10 (z1 (zc (rfl : s_9.map elB = s_9.map elB) (z2 zt)))))))))))) zt) ?_
  refine T_reg (hl 8 [(6, (zd (I v_2))), (7, (zd (I (v_3 + v_2))))]) [4] [] (mk 63 [(4, (dt (.str s_9)))] [(0, gB0), (1, gB1), (2, gB2), (3, (.var [(.dat (.sl 1 (r_1.B.map elB))), (.dat (I (v_3 + v_2))), (.dat (B (v_4)))]))]) _ (by kernel_rfl) (z8 (z5 (zc c7 (z1 (zc c8 (z6 zt)))))) ?_
  refine T_reg [] [2] [] (mk 63 [(2, (dt (.str s_9)))] [(0, gB0), (1, gB1), (2, gB2), (3, (.var [(.dat (.sl 1 (r_1.B.map elB))), (.dat (I (v_3 + v_2))), (.dat (B (v_4)))]))]) _ (by kernel_rfl) (z4 zt) ?_
  refine T_arr [] [2] [] [0, 1, 2, 3] (mk 63 [(2, (dt (.str s_9)))] [(0, gB0), (1, gB1), (2, gB2), (3, (.var [(.dat (.sl 1 (r_1.B.map elB))), (.dat (I (v_3 + v_2))), (.dat (B (v_4)))]))]) (by kernel_rfl) ?_
  refine T_ret ?_
  obtain rfl := some_inv h
  exact ⟨[(dt (.str s_9))], by kernel_rfl, rfl⟩
  rcases Bool.eq_false_or_eq_true (v_4) with b11 | b11
  replace h := ite_t b11 h
  exact T_regJD 19 [zn, zn, zn, zn, zn, zg, zg, zg, zg, zg, zg, zg, zg, zg, zg, zg, zg, zg, (zd (B true))] [] [0, 3, 31] [] [0, 1, 2, 3] _ _ (by kernel_rfl) (by kernel_rfl) (by kernel_rfl) (zc (z8 (z2 (zc (gd_tf b11) (zc (gd_tf b11) (zc (gd_tf b11) (zc (gd_tf b11) (zc (gd_tf b11) (zc (gd_tf b11) (zc (gd_tf b11) (zc (gd_tf b11) (zc (gd_tf b11) (zc (gd_tf b11) (zc (gd_tf b11) (zc (gd_tf b11) (zc (gd_tf b11) (z1 (zc b11 zt))))))))))))))))) zt) (fun s hs => Exists.intro true (And.intro h hs))
  replace h := ite_f b11 h
  obtain ⟨c12, h⟩ := ckI_inv h
  obtain ⟨c13, h⟩ := ckI_inv h
  exact T_regJD 19 (hl 19 [(6, (zd (I v_2))), (11, (zd (I ((r_1.B.length : Nat) : Int)))), (16, (zd (I (((r_1.B.length : Nat) : Int) - v_3)))), (18, (zd (B false)))]) [] [0, 3, 31] [] [0, 1, 2, 3] _ _ (by kernel_rfl) (by kernel_rfl) (by kernel_rfl) (zc (z8 (z2 (zc (gd_ff b11) (z1 (zc (gd_ff b11) (zc c12 (zc (gd_ff b11) (z1 (zc (gd_ff b11) (z1 (zc (gd_ff b11) (z1 (zc (gd_ff b11) (z1 (zc (gd_ff b11) (zc (len_s elB r_1.B) (zc (gd_ff b11) (z1 (zc (gd_ff b11) (z1 (zc (gd_ff b11) (z1 (zc (gd_ff b11) (z1 (zc (gd_ff b11) (zc c13 (zc (gd_ff b11) (z2 (zc b11 zt))))))))))))))))))))))))))))) zt) (fun s hs => Exists.intro (decide (v_2 > (((r_1.B.length : Nat) : Int) - v_3))) (And.intro h hs))
  refine TL_inlineP 67 52 [] Tryd.f52 _ rfl rfl (by kernel_rfl) Tryd.func52 rfl rfl (by decide) ?_
  refine T_turn [] [0, 1, 2] [] (mk 98 [(0, (rf 3 0)), (1, (dt (.int .u8 58))), (2, (dt (.int .u64 (IntKind.u64.wrap ((r_1.B.length : Nat) : Int)))))] [(0, gB0), (1, gB1), (2, gB2), (3, (.var (qAssizeref02Reader r_1)))]) (by kernel_rfl) ?_
  refine T_reg [] [0, 1, 2] [] (mk 98 [(0, (rf 3 0)), (1, (dt (.int .u8 58))), (2, (dt (.int .u64 (IntKind.u64.wrap ((r_1.B.length : Nat) : Int)))))] [(0, gB0), (1, gB1), (2, gB2), (3, (.var (qAssizeref02Reader r_1)))]) _ (by kernel_rfl) (z2 zt) ?_
  refine T_reg [] [0, 1, 2, 7] [] (mk 98 [(0, (rf 3 0)), (1, (dt (.int .u8 58))), (2, (dt (.int .u64 (IntKind.u64.wrap ((r_1.B.length : Nat) : Int))))), (7, (dt (.int .u64 0)))] [(0, gB0), (1, gB1), (2, gB2), (3, (.var (qAssizeref02Reader r_1)))]) _ (by kernel_rfl) (z2 zt) ?_
  refine T_reg [] [0, 1, 2, 7, 8] [] (mk 98 [(0, (rf 3 0)), (1, (dt (.int .u8 58))), (2, (dt (.int .u64 (IntKind.u64.wrap ((r_1.B.length : Nat) : Int))))), (7, (dt (.int .u64 0))), (8, (di r_1.At))] [(0, gB0), (1, gB1), (2, gB2), (3, (.var (qAssizeref02Reader r_1)))]) _ (by kernel_rfl) (z8 (z2 zt)) ?_
  refine T_seqJ (α := Int × Int × Bool) (fun ((n_14, v_15, v_16) : Int × Int × Bool) => (mk 98 [(0, (rf 3 0)), (2, (dt (.int .u64 (IntKind.u64.wrap ((r_1.B.length : Nat) : Int))))), (7, (dt (.int .u64 n_14))), (8, (di r_1.At))] [(0, gB0), (1, gB1), (2, gB2), (3, (.var [(.dat (.sl 1 (r_1.B.map elB))), (.dat (I v_15)), (.dat (B (v_16)))]))])) (fun ((n_14, v_15, v_16) : Int × Int × Bool) => g__ref02_Reader_text_j3 r_1 n_14 v_15 v_16 = some r) (fun v h => ?_) ?_
  obtain ⟨n_14, v_15, v_16⟩ := v
  refine T_seqJ (α := Bool) (fun (v_17 : Bool) => (mk 98 [(0, (rf 3 0)), (7, (dt (.int .u64 n_14)))] [(0, gB0), (1, gB1), (2, gB2), (3, (.var [(.dat (.sl 1 (r_1.B.map elB))), (.dat (I v_15)), (.dat (B (v_17)))]))])) (fun (v_17 : Bool) => g__ref02_Reader_text_j4 v_15 r_1 n_14 v_17 = some r) (fun v_17 h => ?_) ?_
  obtain ⟨c18, h⟩ := ckI_inv h
  refine T_reg (hl 5 [(4, (zd (I (v_15 + 1))))]) [7] [] (mk 98 [(7, (dt (.int .u64 n_14)))] [(0, gB0), (1, gB1), (2, gB2), (3, (.var [(.dat (.sl 1 (r_1.B.map elB))), (.dat (I (v_15 + 1))), (.dat (B (v_17)))]))]) _ (by kernel_rfl) (z8 (z1 (zc c18 (z6 zt)))) ?_
  refine T_reg [] [6] [] (mk 98 [(6, (dt (.int .u64 n_14)))] [(0, gB0), (1, gB1), (2, gB2), (3, (.var [(.dat (.sl 1 (r_1.B.map elB))), (.dat (I (v_15 + 1))), (.dat (B (v_17)))]))]) _ (by kernel_rfl) (z4 zt) ?_
  refine T_ret ?_
  refine ⟨[(dt (.int .u64 n_14))], by kernel_rfl, ?_⟩
  refine TL_nilQ ?_
  exact Exists.intro (n_14, (v_15 + 1), (v_17)) (And.intro h (arr [] [0, 12] [] [0, 1, 2, 3] (by kernel_rfl)))
  refine T_seqJ (α := Bool) (fun (v_19 : Bool) => (mk 98 [(0, (rf 3 0)), (7, (dt (.int .u64 n_14))), (86, (db (v_19)))] [(0, gB0), (1, gB1), (2, gB2), (3, (.var [(.dat (.sl 1 (r_1.B.map elB))), (.dat (I v_15)), (.dat (B (v_16)))]))])) (fun (v_19 : Bool) => g__ref02_Reader_text_j5 v_15 r_1 n_14 v_16 v_19 = some r) (fun v_19 h => ?_) ?_
  refine T_cond (v_19) (by kernel_rfl) (fun b20 => ?_) (fun b20 => ?_)
  replace h := ite_t b20 h
  exact T_regJ [] [] [0, 7] [] [0, 1, 2, 3] _ _ (by kernel_rfl) (z8 zt) (fun s hs => Exists.intro true (And.intro h hs))
  replace h := ite_f b20 h
  refine T_skip ?_
  exact Exists.intro (v_16) (And.intro h (arr [] [0, 7] [] [0, 1, 2, 3] (by kernel_rfl)))
  rcases Bool.eq_false_or_eq_true (v_15 == r_1.At) with b21 | b21
  replace h := ite_t b21 h
  exact T_regJ [zn, zn, zn, zn, zn, zn, zn, zg, zg, zg, (zd (B true))] [] [0, 7, 86] [] [0, 1, 2, 3] _ _ (by kernel_rfl) (z8 (z6 (zc (gd_tf b21) (zc (gd_tf b21) (zc (gd_tf b21) (z1 (zc b21 zt))))))) (fun s hs => Exists.intro true (And.intro h hs))
  replace h := ite_f b21 h
  exact T_regJ (hl 11 [(10, (zd (B false)))]) [] [0, 7, 86] [] [0, 1, 2, 3] _ _ (by kernel_rfl) (z8 (z6 (zc (gd_ff b21) (z1 (zc (gd_ff b21) (z1 (zc (gd_ff b21) (z2 (zc b21 zt))))))))) (fun s hs => Exists.intro (decide (n_14 > (IntKind.u64.wrap ((r_1.B.length : Nat) : Int)))) (And.intro h hs))
  refine T_block ?_
  refine T_arr [] [0, 1, 2, 7, 8] [] [0, 1, 2, 3] _ (by kernel_rfl) (T_loopO (σ := Int × Int × Bool) (fun ((n_22, v_23, v_24) : Int × Int × Bool) => (mk 98 [(0, (rf 3 0)), (1, (dt (.int .u8 58))), (2, (dt (.int .u64 (IntKind.u64.wrap ((r_1.B.length : Nat) : Int))))), (7, (dt (.int .u64 n_22))), (8, (di r_1.At))] [(0, gB0), (1, gB1), (2, gB2), (3, (.var [(.dat (.sl 1 (r_1.B.map elB))), (.dat (I v_23)), (.dat (B (v_24)))]))])) (g__ref02_Reader_text_l6 r_1) (0, r_1.At, (r_1.Bad)) h (fun v y1 hy1 h => ?_))
  obtain ⟨n_22, v_23, v_24⟩ := v
  refine T_seq ?_
  refine T_seqJ (α := Bool × Bool) (fun ((v_28, v_29) : Bool × Bool) => (mk 98 [(0, (rf 3 0)), (1, (dt (.int .u8 58))), (2, (dt (.int .u64 (IntKind.u64.wrap ((r_1.B.length : Nat) : Int))))), (7, (dt (.int .u64 n_22))), (8, (di r_1.At)), (24, (db (v_28)))] [(0, gB0), (1, gB1), (2, gB2), (3, (.var [(.dat (.sl 1 (r_1.B.map elB))), (.dat (I v_23)), (.dat (B (v_29)))]))])) (fun ((v_28, v_29) : Bool × Bool) => g__ref02_Reader_text_j7 v_23 r_1 n_22 v_28 v_29 = some y1) (fun v h => ?_) ?_
  obtain ⟨v_28, v_29⟩ := v
  refine T_cond (v_28) (by kernel_rfl) (fun b30 => ?_) (fun b30 => ?_)
  replace h := ite_t b30 h
  refine T_skip ?_
  refine T_block ?_
  refine T_seq (T_parts ?_)
  refine TL_part 1 [] (mk 98 [(0, (rf 3 0)), (1, (dt (.int .u8 58))), (2, (dt (.int .u64 (IntKind.u64.wrap ((r_1.B.length : Nat) : Int))))), (7, (dt (.int .u64 n_22))), (8, (di r_1.At)), (24, (db (v_28))), (25, (rf 3 0))] [(0, gB0), (1, gB1), (2, gB2), (3, (.var [(.dat (.sl 1 (r_1.B.map elB))), (.dat (I v_23)), (.dat (B (v_29)))]))]) _ (by kernel_rfl) (z2 zt) rfl ?_
  refine TL_consJ (α := Int × Bool) (fun ((v_31, v_32) : Int × Bool) => (mk 98 [(0, (rf 3 0)), (1, (dt (.int .u8 58))), (2, (dt (.int .u64 (IntKind.u64.wrap ((r_1.B.length : Nat) : Int))))), (7, (dt (.int .u64 n_22))), (8, (di r_1.At)), (26, (dt (.int .u8 v_31)))] [(0, gB0), (1, gB1), (2, gB2), (3, (.var [(.dat (.sl 1 (r_1.B.map elB))), (.dat (I v_23)), (.dat (B (v_32)))]))])) (fun ((v_31, v_32) : Int × Bool) => g__ref02_Reader_text_j8 r_1 v_23 n_22 v_31 v_32 = some y1) (fun v h => ?_) ?_
  obtain ⟨v_31, v_32⟩ := v
  refine TL_turn [] [0, 1, 2, 7, 8, 26] [] (mk 98 [(0, (rf 3 0)), (1, (dt (.int .u8 58))), (2, (dt (.int .u64 (IntKind.u64.wrap ((r_1.B.length : Nat) : Int))))), (7, (dt (.int .u64 n_22))), (8, (di r_1.At)), (26, (dt (.int .u8 v_31)))] [(0, gB0), (1, gB1), (2, gB2), (3, (.var [(.dat (.sl 1 (r_1.B.map elB))), (.dat (I v_23)), (.dat (B (v_32)))]))]) (by kernel_rfl) ?_
  refine TL_part 1 [] (mk 98 [(0, (rf 3 0)), (1, (dt (.int .u8 58))), (2, (dt (.int .u64 (IntKind.u64.wrap ((r_1.B.length : Nat) : Int))))), (7, (dt (.int .u64 n_22))), (8, (di r_1.At)), (9, (dt (.int .u8 v_31))), (26, (dt (.int .u8 v_31)))] [(0, gB0), (1, gB1), (2, gB2), (3, (.var [(.dat (.sl 1 (r_1.B.map elB))), (.dat (I v_23)), (.dat (B (v_32)))]))]) _ (by kernel_rfl) (z2 zt) rfl ?_
  refine TL_nilQ ?_
  refine T_turn [] [0, 1, 2, 7, 8, 9] [] (mk 98 [(0, (rf 3 0)), (1, (dt (.int .u8 58))), (2, (dt (.int .u64 (IntKind.u64.wrap ((r_1.B.length : Nat) : Int))))), (7, (dt (.int .u64 n_22))), (8, (di r_1.At)), (9, (dt (.int .u8 v_31)))] [(0, gB0), (1, gB1), (2, gB2), (3, (.var [(.dat (.sl 1 (r_1.B.map elB))), (.dat (I v_23)), (.dat (B (v_32)))]))]) (by kernel_rfl) ?_
  refine T_seq ?_
  refine T_seqJ (α := Bool) (fun (v_33 : Bool) => (mk 98 [(0, (rf 3 0)), (1, (dt (.int .u8 58))), (2, (dt (.int .u64 (IntKind.u64.wrap ((r_1.B.length : Nat) : Int))))), (7, (dt (.int .u64 n_22))), (8, (di r_1.At)), (9, (dt (.int .u8 v_31))), (59, (db (v_33)))] [(0, gB0), (1, gB1), (2, gB2), (3, (.var [(.dat (.sl 1 (r_1.B.map elB))), (.dat (I v_23)), (.dat (B (v_32)))]))])) (fun (v_33 : Bool) => g__ref02_Reader_text_j9 r_1 v_23 n_22 v_31 v_32 v_33 = some y1) (fun v_33 h => ?_) ?_
  refine T_cond (v_33) (by kernel_rfl) (fun b34 => ?_) (fun b34 => ?_)
  replace h := ite_t b34 h
  refine T_reg [] [] [] (mk 98 [] [(0, gB0), (1, gB1), (2, gB2), (3, (.var [(.dat (.sl 1 (r_1.B.map elB))), (.dat (I v_23)), (.dat (B true))]))]) _ (by kernel_rfl) (z8 zt) ?_
  refine T_reg [] [6] [] (mk 98 [(6, (dt (.int .u64 0)))] [(0, gB0), (1, gB1), (2, gB2), (3, (.var [(.dat (.sl 1 (r_1.B.map elB))), (.dat (I v_23)), (.dat (B true))]))]) _ (by kernel_rfl) (z2 zt) ?_
  refine T_ret ?_
  replace h := up_inv h hy1
  refine ⟨[(dt (.int .u64 0))], by kernel_rfl, ?_⟩
  refine TL_nilQ ?_
  exact Exists.intro (0, v_23, true) (And.intro h (arr [] [0, 12] [] [0, 1, 2, 3] (by kernel_rfl)))
  replace h := ite_f b34 h
  refine T_skip ?_
  refine T_reg [] [0, 1, 2, 7, 8] [] (mk 98 [(0, (rf 3 0)), (1, (dt (.int .u8 58))), (2, (dt (.int .u64 (IntKind.u64.wrap ((r_1.B.length : Nat) : Int))))), (7, (dt (.int .u64 (IntKind.u64.wrap ((IntKind.u64.wrap (10 * n_22)) + (IntKind.u64.wrap (IntKind.u8.wrap (v_31 - 48)))))))), (8, (di r_1.At))] [(0, gB0), (1, gB1), (2, gB2), (3, (.var [(.dat (.sl 1 (r_1.B.map elB))), (.dat (I v_23)), (.dat (B (v_32)))]))]) _ (by kernel_rfl) (z8 (z6 zt)) ?_
  obtain ⟨c35, h⟩ := ckI_inv h
  exact T_regJ (hl 5 [(4, (zd (I (v_23 + 1))))]) [] [0, 1, 2, 7, 8] [] [0, 1, 2, 3] _ _ (by kernel_rfl) (z8 (z1 (zc c35 (z6 zt)))) (fun s hs => Exists.intro ((IntKind.u64.wrap ((IntKind.u64.wrap (10 * n_22)) + (IntKind.u64.wrap (IntKind.u8.wrap (v_31 - 48))))), (v_23 + 1), (v_32)) (And.intro h hs))
  rcases Bool.eq_false_or_eq_true (decide (v_31 < 48)) with b36 | b36
  replace h := ite_t b36 h
  exact T_regJ [zn, zn, zn, zg, zg, (zd (B true)), zn, zg, zg, zg, zg, zg, zg, zg, (zd (B true)), zn, zg, zg, zg, zg, zg, zg, zg, zn, zn, zn, zn, zn, zn, zn, zn, zg, (zd (B true))] [] [0, 1, 2, 7, 8, 9, 59] [] [0, 1, 2, 3] _ _ (by kernel_rfl) (z6 (zc (gd_tf b36) (zc (gd_tf b36) (z1 (zc b36 (z2 (zc (gd_tf (rfl : true = true)) (zc (gd_tf (rfl : true = true)) (zc (gd_tf (rfl : true = true)) (zc (gd_tf (rfl : true = true)) (zc (gd_tf (rfl : true = true)) (zc (gd_tf (rfl : true = true)) (zc (gd_tf (rfl : true = true)) (z1 (zc (rfl : true = true) (z2 (zc (gd_tf (rfl : true = true)) (zc (gd_tf (rfl : true = true)) (zc (gd_tf (rfl : true = true)) (zc (gd_tf (rfl : true = true)) (zc (gd_tf (rfl : true = true)) (zc (gd_tf (rfl : true = true)) (zc (gd_tf (rfl : true = true)) (z8 (zc (gd_tf (rfl : true = true)) (z1 (zc (rfl : true = true) zt))))))))))))))))))))))))))) (fun s hs => Exists.intro true (And.intro h hs))
  replace h := ite_f b36 h
  rcases Bool.eq_false_or_eq_true (decide (v_31 > 57)) with b37 | b37
  replace h := ite_t b37 h
  exact T_regJ [zn, zn, zn, zn, zn, (zd (B false)), zn, zg, zg, zg, zg, zg, zg, zg, (zd (B true)), zn, zg, zg, zg, zg, zg, zg, zg, zn, zn, zn, zn, zn, zn, zn, zn, zg, (zd (B true))] [] [0, 1, 2, 7, 8, 9, 59] [] [0, 1, 2, 3] _ _ (by kernel_rfl) (z6 (zc (gd_ff b36) (z1 (zc (gd_ff b36) (z2 (zc b36 (z2 (zc (gd_tf b37) (zc (gd_tf b37) (zc (gd_tf b37) (zc (gd_tf b37) (zc (gd_tf b37) (zc (gd_tf b37) (zc (gd_tf b37) (z1 (zc b37 (z2 (zc (gd_tf (rfl : true = true)) (zc (gd_tf (rfl : true = true)) (zc (gd_tf (rfl : true = true)) (zc (gd_tf (rfl : true = true)) (zc (gd_tf (rfl : true = true)) (zc (gd_tf (rfl : true = true)) (zc (gd_tf (rfl : true = true)) (z8 (zc (gd_tf (rfl : true = true)) (z1 (zc (rfl : true = true) zt)))))))))))))))))))))))))))) (fun s hs => Exists.intro true (And.intro h hs))
  replace h := ite_f b37 h
  obtain ⟨c38, h⟩ := ckI_inv h
  rcases Bool.eq_false_or_eq_true (decide ((v_23 - r_1.At) > 18)) with b39 | b39
  replace h := ite_t b39 h
  exact T_regJ (hl 33 [(5, (zd (B false))), (12, (zd (I (v_23 - r_1.At)))), (14, (zd (B false))), (16, zg), (17, zg), (18, zg), (19, zg), (20, zg), (21, zg), (22, zg), (31, zg), (32, (zd (B true)))]) [] [0, 1, 2, 7, 8, 9, 59] [] [0, 1, 2, 3] _ _ (by kernel_rfl) (z6 (zc (gd_ff b36) (z1 (zc (gd_ff b36) (z2 (zc b36 (z2 (zc (gd_ff b37) (z1 (zc (gd_ff b37) (z1 (zc (gd_ff b37) (z1 (zc (gd_ff b37) (z1 (zc (gd_ff b37) (z1 (zc (gd_ff b37) (zc c38 (zc (gd_ff b37) (z2 (zc b37 (z2 (zc (gd_tf b39) (zc (gd_tf b39) (zc (gd_tf b39) (zc (gd_tf b39) (zc (gd_tf b39) (zc (gd_tf b39) (zc (gd_tf b39) (z8 (zc (gd_tf b39) (z1 (zc b39 zt)))))))))))))))))))))))))))))))))) (fun s hs => Exists.intro true (And.intro h hs))
  replace h := ite_f b39 h
  rcases Bool.eq_false_or_eq_true (decide (v_23 > r_1.At)) with b40 | b40
  replace h := ite_t b40 h
  obtain ⟨x_41, e42, e43, e44, h⟩ := gt_inv elB h
  exact T_regJ (hl 33 [(5, (zd (B false))), (12, (zd (I (v_23 - r_1.At)))), (14, (zd (B false))), (28, (zd (.int .u8 ((x_41.toNat : Nat) : Int)))), (31, (zd (B true))), (32, (zd (B false)))]) [] [0, 1, 2, 7, 8, 9, 59] [] [0, 1, 2, 3] _ _ (by kernel_rfl) (z6 (zc (gd_ff b36) (z1 (zc (gd_ff b36) (z2 (zc b36 (z2 (zc (gd_ff b37) (z1 (zc (gd_ff b37) (z1 (zc (gd_ff b37) (z1 (zc (gd_ff b37) (z1 (zc (gd_ff b37) (z1 (zc (gd_ff b37) (zc c38 (zc (gd_ff b37) (z2 (zc b37 (z2 (zc (gd_ff b39) (z1 (zc (gd_ff b39) (z1 (zc (gd_ff b39) (z1 (zc (gd_ff b39) (z1 (zc (gd_ff b39) (z1 (zc (gd_ff b39) (z1 (zc (gd_ff b39) (z1 (zc (gd_tt b40) (z1 (zc (gd_tt b40) (z1 (zc (gd_tt b40) (z1 (zc (gd_tt b40) (z1 (zc (gd_tt b40) (z1 (zc (gd_tt b40) (zc e42 (zc (gd_tt b40) (z1 (zc (gd_tt b40) (z1 (zc (gd_ff b39) (zc b40 (z1 (zc b39 zt))))))))))))))))))))))))))))))))))))))))))))))))))))))))) (fun s hs => Exists.intro (((x_41.toNat : Nat) : Int) == 48) (And.intro h hs))
  replace h := ite_f b40 h
  exact T_regJ [zn, zn, zn, zn, zn, (zd (B false)), zn, zn, zn, zn, zn, zn, (zd (I (v_23 - r_1.At))), zn, (zd (B false)), zn, zn, zn, zn, zn, zn, zn, zn, zg, zg, zg, zg, zg, zg, zg, zg, (zd (B false)), (zd (B false))] [] [0, 1, 2, 7, 8, 9, 59] [] [0, 1, 2, 3] _ _ (by kernel_rfl) (z6 (zc (gd_ff b36) (z1 (zc (gd_ff b36) (z2 (zc b36 (z2 (zc (gd_ff b37) (z1 (zc (gd_ff b37) (z1 (zc (gd_ff b37) (z1 (zc (gd_ff b37) (z1 (zc (gd_ff b37) (z1 (zc (gd_ff b37) (zc c38 (zc (gd_ff b37) (z2 (zc b37 (z2 (zc (gd_ff b39) (z1 (zc (gd_ff b39) (z1 (zc (gd_ff b39) (z1 (zc (gd_ff b39) (z1 (zc (gd_ff b39) (z1 (zc (gd_ff b39) (z1 (zc (gd_ff b39) (z1 (zc (gd_ft b40) (zc (gd_ft b40) (zc (gd_ft b40) (zc (gd_ft b40) (zc (gd_ft b40) (zc (gd_ft b40) (zc (gd_ft b40) (zc (gd_ft b40) (zc (gd_ff b39) (zc b40 (z1 (zc b39 zt))))))))))))))))))))))))))))))))))))))))))))))))) (fun s hs => Exists.intro false (And.intro h hs))
  refine TL_inlineP 165 51 [] Tryd.f51 _ rfl rfl (by kernel_rfl) Tryd.func51 rfl rfl (by decide) ?_
  refine T_turn [] [0] [] (mk 26 [(0, (rf 3 0))] [(0, gB0), (1, gB1), (2, gB2), (3, (.var [(.dat (.sl 1 (r_1.B.map elB))), (.dat (I v_23)), (.dat (B (v_29)))]))]) (by kernel_rfl) ?_
  refine T_reg [] [0] [] (mk 26 [(0, (rf 3 0))] [(0, gB0), (1, gB1), (2, gB2), (3, (.var [(.dat (.sl 1 (r_1.B.map elB))), (.dat (I v_23)), (.dat (B (v_29)))]))]) _ (by kernel_rfl) (z2 zt) ?_
  refine T_seq ?_
  refine T_regD 10 (hl 9 [(8, (zd (I ((r_1.B.length : Nat) : Int))))]) [0, 12] [] (mk 26 [(0, (rf 3 0)), (12, (db (decide (v_23 < ((r_1.B.length : Nat) : Int)))))] [(0, gB0), (1, gB1), (2, gB2), (3, (.var [(.dat (.sl 1 (r_1.B.map elB))), (.dat (I v_23)), (.dat (B (v_29)))]))]) _ (by kernel_rfl) (by kernel_rfl) (by kernel_rfl) (zc (z8 (z8 (z1 (zc (len_s elB r_1.B) (z2 zt))))) zt) ?_
  refine T_cond (decide (v_23 < ((r_1.B.length : Nat) : Int))) (by kernel_rfl) (fun b45 => ?_) (fun b45 => ?_)
  replace h := ite_t b45 h
  obtain ⟨x_46, e47, e48, e49, h⟩ := gt_inv elB h
  refine T_regD 11 (hl 9 [(8, (zd (.int .u8 ((x_46.toNat : Nat) : Int))))]) [2] [] (mk 26 [(2, (dt (.int .u8 ((x_46.toNat : Nat) : Int))))] [(0, gB0), (1, gB1), (2, gB2), (3, (.var [(.dat (.sl 1 (r_1.B.map elB))), (.dat (I v_23)), (.dat (B (v_29)))]))]) _ (by kernel_rfl) (by kernel_rfl) (by kernel_rfl) (zc (z8 (z8 (z1 (zc e47 (z4 zt))))) zt) ?_
  refine T_ret ?_
  refine ⟨[(dt (.int .u8 ((x_46.toNat : Nat) : Int)))], by kernel_rfl, ?_⟩
  refine TL_nilQ ?_
  exact Exists.intro (((x_46.toNat : Nat) : Int), (v_29)) (And.intro h (arr [] [0, 1, 2, 7, 8, 26] [] [0, 1, 2, 3] (by kernel_rfl)))
  replace h := ite_f b45 h
  refine T_skip ?_
  refine T_reg [] [] [] (mk 26 [] [(0, gB0), (1, gB1), (2, gB2), (3, (.var [(.dat (.sl 1 (r_1.B.map elB))), (.dat (I v_23)), (.dat (B true))]))]) _ (by kernel_rfl) (z8 zt) ?_
  refine T_reg [] [2] [] (mk 26 [(2, (dt (.int .u8 0)))] [(0, gB0), (1, gB1), (2, gB2), (3, (.var [(.dat (.sl 1 (r_1.B.map elB))), (.dat (I v_23)), (.dat (B true))]))]) _ (by kernel_rfl) (z2 zt) ?_
  refine T_ret ?_
  refine ⟨[(dt (.int .u8 0))], by kernel_rfl, ?_⟩
  refine TL_nilQ ?_
  exact Exists.intro (0, true) (And.intro h (arr [] [0, 1, 2, 7, 8, 26] [] [0, 1, 2, 3] (by kernel_rfl)))
  replace h := ite_f b30 h
  refine T_exit ?_
  replace h := up_inv h hy1
  exact Exists.intro (n_22, v_23, (v_29)) (And.intro h (arr [] [0, 2, 7, 8] [] [0, 1, 2, 3] (by kernel_rfl)))
  rcases Bool.eq_false_or_eq_true (!(v_24)) with b50 | b50
  replace h := ite_t b50 h
  refine T_parts ?_
  refine TL_part 7 [] (mk 98 [(0, (rf 3 0)), (1, (dt (.int .u8 58))), (2, (dt (.int .u64 (IntKind.u64.wrap ((r_1.B.length : Nat) : Int))))), (7, (dt (.int .u64 n_22))), (8, (di r_1.At)), (14, (rf 3 0)), (15, (rf 3 0)), (16, (rf 3 2)), (17, (db (v_24))), (18, (db (!(v_24)))), (19, (db (!(v_24)))), (20, (rf 3 0))] [(0, gB0), (1, gB1), (2, gB2), (3, (.var [(.dat (.sl 1 (r_1.B.map elB))), (.dat (I v_23)), (.dat (B (v_24)))]))]) _ (by kernel_rfl) (z8 (z4 (zc (gd_tt b50) (z1 zt)))) rfl ?_
  refine TL_guard (p := ((!(v_24)) == true) = true) (by kernel_rfl) (gd_tt b50) ?_
  refine TL_consJ (α := Int × Bool) (fun ((v_51, v_52) : Int × Bool) => (mk 98 [(0, (rf 3 0)), (1, (dt (.int .u8 58))), (2, (dt (.int .u64 (IntKind.u64.wrap ((r_1.B.length : Nat) : Int))))), (7, (dt (.int .u64 n_22))), (8, (di r_1.At)), (19, (db (!(v_24)))), (21, (dt (.int .u8 v_51)))] [(0, gB0), (1, gB1), (2, gB2), (3, (.var [(.dat (.sl 1 (r_1.B.map elB))), (.dat (I v_23)), (.dat (B (v_52)))]))])) (fun ((v_51, v_52) : Int × Bool) => g__ref02_Reader_text_j10 v_23 r_1 n_22 v_24 v_51 v_52 = some y1) (fun v h => ?_) ?_
  obtain ⟨v_51, v_52⟩ := v
  refine TL_turn [] [0, 1, 2, 7, 8, 19, 21] [] (mk 98 [(0, (rf 3 0)), (1, (dt (.int .u8 58))), (2, (dt (.int .u64 (IntKind.u64.wrap ((r_1.B.length : Nat) : Int))))), (7, (dt (.int .u64 n_22))), (8, (di r_1.At)), (19, (db (!(v_24)))), (21, (dt (.int .u8 v_51)))] [(0, gB0), (1, gB1), (2, gB2), (3, (.var [(.dat (.sl 1 (r_1.B.map elB))), (.dat (I v_23)), (.dat (B (v_52)))]))]) (by kernel_rfl) ?_
  refine TL_part 3 [zn, zn, (zd (B true))] (mk 98 [(0, (rf 3 0)), (1, (dt (.int .u8 58))), (2, (dt (.int .u64 (IntKind.u64.wrap ((r_1.B.length : Nat) : Int))))), (7, (dt (.int .u64 n_22))), (8, (di r_1.At)), (19, (db (!(v_24)))), (21, (dt (.int .u8 v_51))), (22, (dt (.int .u8 58))), (23, (db (v_51 != 58))), (24, (db (v_51 != 58)))] [(0, gB0), (1, gB1), (2, gB2), (3, (.var [(.dat (.sl 1 (r_1.B.map elB))), (.dat (I v_23)), (.dat (B (v_52)))]))]) _ (by kernel_rfl) (zc (gd_tt b50) (z1 (zc (gd_tt b50) (z2 (zc b50 zt))))) rfl ?_
  refine TL_nilQ ?_
  exact Exists.intro ((v_51 != 58), (v_52)) (And.intro h (arr [] [0, 1, 2, 7, 8, 24] [] [0, 1, 2, 3] (by kernel_rfl)))
  refine TL_inlineP 165 51 [] Tryd.f51 _ rfl rfl (by kernel_rfl) Tryd.func51 rfl rfl (by decide) ?_
  refine T_turn [] [0] [] (mk 26 [(0, (rf 3 0))] [(0, gB0), (1, gB1), (2, gB2), (3, (.var [(.dat (.sl 1 (r_1.B.map elB))), (.dat (I v_23)), (.dat (B (v_24)))]))]) (by kernel_rfl) ?_
  refine T_reg [] [0] [] (mk 26 [(0, (rf 3 0))] [(0, gB0), (1, gB1), (2, gB2), (3, (.var [(.dat (.sl 1 (r_1.B.map elB))), (.dat (I v_23)), (.dat (B (v_24)))]))]) _ (by kernel_rfl) (z2 zt) ?_
  refine T_seq ?_
  refine T_regD 10 (hl 9 [(8, (zd (I ((r_1.B.length : Nat) : Int))))]) [0, 12] [] (mk 26 [(0, (rf 3 0)), (12, (db (decide (v_23 < ((r_1.B.length : Nat) : Int)))))] [(0, gB0), (1, gB1), (2, gB2), (3, (.var [(.dat (.sl 1 (r_1.B.map elB))), (.dat (I v_23)), (.dat (B (v_24)))]))]) _ (by kernel_rfl) (by kernel_rfl) (by kernel_rfl) (zc (z8 (z8 (z1 (zc (len_s elB r_1.B) (z2 zt))))) zt) ?_
  refine T_cond (decide (v_23 < ((r_1.B.length : Nat) : Int))) (by kernel_rfl) (fun b53 => ?_) (fun b53 => ?_)
  replace h := ite_t b53 h
  obtain ⟨x_54, e55, e56, e57, h⟩ := gt_inv elB h
  refine T_regD 11 (hl 9 [(8, (zd (.int .u8 ((x_54.toNat : Nat) : Int))))]) [2] [] (mk 26 [(2, (dt (.int .u8 ((x_54.toNat : Nat) : Int))))] [(0, gB0), (1, gB1), (2, gB2), (3, (.var [(.dat (.sl 1 (r_1.B.map elB))), (.dat (I v_23)), (.dat (B (v_24)))]))]) _ (by kernel_rfl) (by kernel_rfl) (by kernel_rfl) (zc (z8 (z8 (z1 (zc e55 (z4 zt))))) zt) ?_
  refine T_ret ?_
  refine ⟨[(dt (.int .u8 ((x_54.toNat : Nat) : Int)))], by kernel_rfl, ?_⟩
  refine TL_nilQ ?_
  exact Exists.intro (((x_54.toNat : Nat) : Int), (v_24)) (And.intro h (arr [] [0, 1, 2, 7, 8, 19, 21] [] [0, 1, 2, 3] (by kernel_rfl)))
  replace h := ite_f b53 h
  refine T_skip ?_
  refine T_reg [] [] [] (mk 26 [] [(0, gB0), (1, gB1), (2, gB2), (3, (.var [(.dat (.sl 1 (r_1.B.map elB))), (.dat (I v_23)), (.dat (B true))]))]) _ (by kernel_rfl) (z8 zt) ?_
  refine T_reg [] [2] [] (mk 26 [(2, (dt (.int .u8 0)))] [(0, gB0), (1, gB1), (2, gB2), (3, (.var [(.dat (.sl 1 (r_1.B.map elB))), (.dat (I v_23)), (.dat (B true))]))]) _ (by kernel_rfl) (z2 zt) ?_
  refine T_ret ?_
  refine ⟨[(dt (.int .u8 0))], by kernel_rfl, ?_⟩
  refine TL_nilQ ?_
  exact Exists.intro (0, true) (And.intro h (arr [] [0, 1, 2, 7, 8, 19, 21] [] [0, 1, 2, 3] (by kernel_rfl)))
  replace h := ite_f b50 h
  exact T_regJ [zn, zn, zn, zn, zn, zn, zg, zg, zg, zg, (zd (B false))] [] [0, 1, 2, 7, 8, 24] [] [0, 1, 2, 3] _ _ (by kernel_rfl) (z8 (z4 (zc (gd_ft b50) (zc (gd_ft b50) (zc (gd_ft b50) (zc (gd_ft b50) (z1 (zc b50 zt)))))))) (fun s hs => Exists.intro (false, (v_24)) (And.intro h hs))

end Go.Proofs.YtimalbkjflfdoaaDoor

namespace Go.Proofs.YtimalbkjflfdoaaDoor
open Go.DL
set_option maxRecDepth 100000
set_option maxHeartbeats 4000000
theorem g__ref02_Reader_Value_s_ret {rc : (Assizeref02Reader) → (Int) → Option ((Val × Assizeref02Reader) ⊕ Unit)} (hrc : ∀ {r_1 : Assizeref02Reader} {depth_2 : Int} {r : (Val × Assizeref02Reader) ⊕ Unit}, rc r_1 depth_2 = some r → CT Tryd.prog 34 4 [(rf 3 0), (di depth_2)] [(0, gB0), (1, gB1), (2, gB2), (3, (.var (qAssizeref02Reader r_1)))] (CoR 3 ghosts (fun x => ((.agg (qVal x.1)), [(0, gB0), (1, gB1), (2, gB2), (3, (.var (qAssizeref02Reader x.2)))])) (.iface 29 (.int .i64 20)) r)) {r_1 : Assizeref02Reader} {depth_2 : Int} {r : (Val × Assizeref02Reader) ⊕ Unit} (h : g__ref02_Reader_Value_s rc r_1 depth_2 = some r) : CT Tryd.prog 34 4 [(rf 3 0), (di depth_2)] [(0, gB0), (1, gB1), (2, gB2), (3, (.var (qAssizeref02Reader r_1)))] (CoR 3 ghosts (fun x => ((.agg (qVal x.1)), [(0, gB0), (1, gB1), (2, gB2), (3, (.var (qAssizeref02Reader x.2)))])) (.iface 29 (.int .i64 20)) r) := by
  refine CT.of_T Tryd.func34 (by kernel_rfl) rfl ?_
  refine T_turn [] [0, 1] [] (mk 122 [(0, (rf 3 0)), (1, (di depth_2))] [(0, gB0), (1, gB1), (2, gB2), (3, (.var (qAssizeref02Reader r_1)))]) (by kernel_rfl) ?_
  refine T_reg [] [0, 1, 4] [] (mk 122 [(0, (rf 3 0)), (1, (di depth_2)), (4, (rf 8 0))] [(8, (.var [(.dat (I 0)), (.dat (I 0)), (.dat (.str ([] : List UInt8))), (.dat nilS), (.dat nilS)])), (0, gB0), (1, gB1), (2, gB2), (3, (.var (qAssizeref02Reader r_1)))]) _ (by kernel_rfl) (z2 zt) ?_
  refine T_seq (T_parts ?_)
  refine TL_part 1 [] (mk 122 [(0, (rf 3 0)), (1, (di depth_2)), (4, (rf 8 0)), (8, (rf 3 0))] [(8, (.var [(.dat (I 0)), (.dat (I 0)), (.dat (.str ([] : List UInt8))), (.dat nilS), (.dat nilS)])), (0, gB0), (1, gB1), (2, gB2), (3, (.var (qAssizeref02Reader r_1)))]) _ (by kernel_rfl) (z2 zt) rfl ?_
  refine TL_consJ (α := Int × Bool) (fun ((v_3, v_4) : Int × Bool) => (mk 122 [(0, (rf 3 0)), (1, (di depth_2)), (4, (rf 8 0)), (9, (dt (.int .u8 v_3)))] [(0, gB0), (1, gB1), (2, gB2), (3, (.var [(.dat (.sl 1 (r_1.B.map elB))), (.dat (I r_1.At)), (.dat (B (v_4)))])), (8, (.var [(.dat (I 0)), (.dat (I 0)), (.dat (.str ([] : List UInt8))), (.dat nilS), (.dat nilS)]))])) (fun ((v_3, v_4) : Int × Bool) => g__ref02_Reader_Value_s_j1 r_1 depth_2 rc v_3 v_4 = some r) (fun v h => ?_) ?_
  obtain ⟨v_3, v_4⟩ := v
  refine TL_turn [] [0, 1, 4, 9] [] (mk 122 [(0, (rf 3 0)), (1, (di depth_2)), (4, (rf 8 0)), (9, (dt (.int .u8 v_3)))] [(0, gB0), (1, gB1), (2, gB2), (3, (.var [(.dat (.sl 1 (r_1.B.map elB))), (.dat (I r_1.At)), (.dat (B (v_4)))])), (8, (.var [(.dat (I 0)), (.dat (I 0)), (.dat (.str ([] : List UInt8))), (.dat nilS), (.dat nilS)]))]) (by kernel_rfl) ?_
  refine TL_part 1 [] (mk 122 [(0, (rf 3 0)), (1, (di depth_2)), (4, (rf 8 0)), (5, (dt (.int .u8 v_3))), (9, (dt (.int .u8 v_3)))] [(0, gB0), (1, gB1), (2, gB2), (3, (.var [(.dat (.sl 1 (r_1.B.map elB))), (.dat (I r_1.At)), (.dat (B (v_4)))])), (8, (.var [(.dat (I 0)), (.dat (I 0)), (.dat (.str ([] : List UInt8))), (.dat nilS), (.dat nilS)]))]) _ (by kernel_rfl) (z2 zt) rfl ?_
  refine TL_nilQ ?_
  refine T_turn [] [0, 1, 4, 5] [] (mk 122 [(0, (rf 3 0)), (1, (di depth_2)), (4, (rf 8 0)), (5, (dt (.int .u8 v_3)))] [(0, gB0), (1, gB1), (2, gB2), (3, (.var [(.dat (.sl 1 (r_1.B.map elB))), (.dat (I r_1.At)), (.dat (B (v_4)))])), (8, (.var [(.dat (I 0)), (.dat (I 0)), (.dat (.str ([] : List UInt8))), (.dat nilS), (.dat nilS)]))]) (by kernel_rfl) ?_
  refine T_seq ?_
  refine T_block ?_
  refine T_reg [] [0, 1, 4, 5, 10] [] (mk 122 [(0, (rf 3 0)), (1, (di depth_2)), (4, (rf 8 0)), (5, (dt (.int .u8 v_3))), (10, (db (v_4)))] [(0, gB0), (1, gB1), (2, gB2), (3, (.var [(.dat (.sl 1 (r_1.B.map elB))), (.dat (I r_1.At)), (.dat (B (v_4)))])), (8, (.var [(.dat (I 0)), (.dat (I 0)), (.dat (.str ([] : List UInt8))), (.dat nilS), (.dat nilS)]))]) _ (by kernel_rfl) (z8 (z2 zt)) ?_
  refine T_cond (v_4) (by kernel_rfl) (fun b5 => ?_) (fun b5 => ?_)
  replace h := ite_t b5 h
  refine T_reg [] [4] [] (mk 122 [(4, (rf 8 0))] [(0, gB0), (1, gB1), (2, gB2), (3, (.var [(.dat (.sl 1 (r_1.B.map elB))), (.dat (I r_1.At)), (.dat (B (v_4)))])), (8, (.var [(.dat (I 0)), (.dat (I 0)), (.dat (.str ([] : List UInt8))), (.dat nilS), (.dat nilS)]))]) _ (by kernel_rfl) (z4 zt) ?_
  refine T_arr [.nilC 8 3 5, .nilC 8 4 1, .ice 8] [4] [8] [0, 1, 2, 3] (mk 122 [(4, (dt (.ptr [(I 0), (I 0), (.str ([] : List UInt8)), (.sl 5 (([] : List Val).map encVal)), (.sl 1 (([] : List (List UInt8)).map elStr))])))] [(0, gB0), (1, gB1), (2, gB2), (3, (.var [(.dat (.sl 1 (r_1.B.map elB))), (.dat (I r_1.At)), (.dat (B (v_4)))]))]) (by kernel_rfl) ?_
  refine T_ret ?_
  obtain rfl := some_inv h
  exact ⟨[(.agg [(.dat (I 0)), (.dat (I 0)), (.dat (.str ([] : List UInt8))), (.dat (.sl 5 (([] : List Val).map encVal))), (.dat (.sl 1 (([] : List (List UInt8)).map elStr)))])], by kernel_rfl, rfl⟩
  replace h := ite_f b5 h
  refine T_reg [] [0, 1, 4, 5, 16] [] (mk 122 [(0, (rf 3 0)), (1, (di depth_2)), (4, (rf 8 0)), (5, (dt (.int .u8 v_3))), (16, (db (v_3 == 105)))] [(0, gB0), (1, gB1), (2, gB2), (3, (.var [(.dat (.sl 1 (r_1.B.map elB))), (.dat (I r_1.At)), (.dat (B (v_4)))])), (8, (.var [(.dat (I 0)), (.dat (I 0)), (.dat (.str ([] : List UInt8))), (.dat nilS), (.dat nilS)]))]) _ (by kernel_rfl) (z6 zt) ?_
  refine T_cond (v_3 == 105) (by kernel_rfl) (fun b6 => ?_) (fun b6 => ?_)
  replace h := ite_t b6 h
  obtain ⟨c7, h⟩ := ckI_inv h
  refine T_reg (hl 5 [(4, (zd (I (r_1.At + 1))))]) [0, 4] [] (mk 122 [(0, (rf 3 0)), (4, (rf 8 0))] [(0, gB0), (1, gB1), (2, gB2), (3, (.var [(.dat (.sl 1 (r_1.B.map elB))), (.dat (I (r_1.At + 1))), (.dat (B (v_4)))])), (8, (.var [(.dat (I 0)), (.dat (I 0)), (.dat (.str ([] : List UInt8))), (.dat nilS), (.dat nilS)]))]) _ (by kernel_rfl) (z8 (z1 (zc c7 (z6 zt)))) ?_
  refine T_seq ?_
  refine T_seq (T_parts ?_)
  refine TL_part 1 [] (mk 122 [(0, (rf 3 0)), (4, (rf 8 0)), (26, (rf 3 0))] [(0, gB0), (1, gB1), (2, gB2), (3, (.var [(.dat (.sl 1 (r_1.B.map elB))), (.dat (I (r_1.At + 1))), (.dat (B (v_4)))])), (8, (.var [(.dat (I 0)), (.dat (I 0)), (.dat (.str ([] : List UInt8))), (.dat nilS), (.dat nilS)]))]) _ (by kernel_rfl) (z2 zt) rfl ?_
  refine TL_consJ (α := Int × Bool) (fun ((v_8, v_9) : Int × Bool) => (mk 122 [(0, (rf 3 0)), (4, (rf 8 0)), (27, (dt (.int .u8 v_8)))] [(0, gB0), (1, gB1), (2, gB2), (3, (.var [(.dat (.sl 1 (r_1.B.map elB))), (.dat (I (r_1.At + 1))), (.dat (B (v_9)))])), (8, (.var [(.dat (I 0)), (.dat (I 0)), (.dat (.str ([] : List UInt8))), (.dat nilS), (.dat nilS)]))])) (fun ((v_8, v_9) : Int × Bool) => g__ref02_Reader_Value_s_j2 r_1 v_8 v_9 = some r) (fun v h => ?_) ?_
  obtain ⟨v_8, v_9⟩ := v
  refine TL_turn [] [0, 4, 27] [] (mk 122 [(0, (rf 3 0)), (4, (rf 8 0)), (27, (dt (.int .u8 v_8)))] [(0, gB0), (1, gB1), (2, gB2), (3, (.var [(.dat (.sl 1 (r_1.B.map elB))), (.dat (I (r_1.At + 1))), (.dat (B (v_9)))])), (8, (.var [(.dat (I 0)), (.dat (I 0)), (.dat (.str ([] : List UInt8))), (.dat nilS), (.dat nilS)]))]) (by kernel_rfl) ?_
  refine TL_part 1 [] (mk 122 [(0, (rf 3 0)), (4, (rf 8 0)), (27, (dt (.int .u8 v_8))), (28, (db (v_8 != 45)))] [(0, gB0), (1, gB1), (2, gB2), (3, (.var [(.dat (.sl 1 (r_1.B.map elB))), (.dat (I (r_1.At + 1))), (.dat (B (v_9)))])), (8, (.var [(.dat (I 0)), (.dat (I 0)), (.dat (.str ([] : List UInt8))), (.dat nilS), (.dat nilS)]))]) _ (by kernel_rfl) (z2 zt) rfl ?_
  refine TL_nilQ ?_
  refine T_turn [] [0, 4, 28] [] (mk 122 [(0, (rf 3 0)), (4, (rf 8 0)), (28, (db (v_8 != 45)))] [(0, gB0), (1, gB1), (2, gB2), (3, (.var [(.dat (.sl 1 (r_1.B.map elB))), (.dat (I (r_1.At + 1))), (.dat (B (v_9)))])), (8, (.var [(.dat (I 0)), (.dat (I 0)), (.dat (.str ([] : List UInt8))), (.dat nilS), (.dat nilS)]))]) (by kernel_rfl) ?_
  refine T_cond (v_8 != 45) (by kernel_rfl) (fun b10 => ?_) (fun b10 => ?_)
  replace h := ite_t b10 h
  refine T_seq (T_parts ?_)
  refine TL_part 1 [] (mk 122 [(0, (rf 3 0)), (4, (rf 8 0)), (28, (db (v_8 != 45))), (29, (rf 3 0))] [(0, gB0), (1, gB1), (2, gB2), (3, (.var [(.dat (.sl 1 (r_1.B.map elB))), (.dat (I (r_1.At + 1))), (.dat (B (v_9)))])), (8, (.var [(.dat (I 0)), (.dat (I 0)), (.dat (.str ([] : List UInt8))), (.dat nilS), (.dat nilS)]))]) _ (by kernel_rfl) (z2 zt) rfl ?_
  refine TL_consJ (α := Int × Int × Bool) (fun ((v_11, v_12, v_13) : Int × Int × Bool) => (mk 122 [(4, (rf 8 0)), (30, (dt (.int .u64 v_11)))] [(0, gB0), (1, gB1), (2, gB2), (3, (.var [(.dat (.sl 1 (r_1.B.map elB))), (.dat (I v_12)), (.dat (B (v_13)))])), (8, (.var [(.dat (I 0)), (.dat (I 0)), (.dat (.str ([] : List UInt8))), (.dat nilS), (.dat nilS)]))])) (fun ((v_11, v_12, v_13) : Int × Int × Bool) => g__ref02_Reader_Value_s_j3 r_1 v_11 v_12 v_13 = some r) (fun v h => ?_) ?_
  obtain ⟨v_11, v_12, v_13⟩ := v
  refine TL_turn [] [4, 30] [] (mk 122 [(4, (rf 8 0)), (30, (dt (.int .u64 v_11)))] [(0, gB0), (1, gB1), (2, gB2), (3, (.var [(.dat (.sl 1 (r_1.B.map elB))), (.dat (I v_12)), (.dat (B (v_13)))])), (8, (.var [(.dat (I 0)), (.dat (I 0)), (.dat (.str ([] : List UInt8))), (.dat nilS), (.dat nilS)]))]) (by kernel_rfl) ?_
  refine TL_part 3 [] (mk 122 [(4, (rf 8 0)), (30, (dt (.int .u64 v_11))), (31, (di (IntKind.i64.wrap v_11))), (32, (.agg [(.dat (I 1)), (.dat (I (IntKind.i64.wrap v_11))), (.dat (.str ([] : List UInt8))), (.dat nilS), (.dat nilS)]))] [(0, gB0), (1, gB1), (2, gB2), (3, (.var [(.dat (.sl 1 (r_1.B.map elB))), (.dat (I v_12)), (.dat (B (v_13)))])), (8, (.var [(.dat (I 1)), (.dat (I (IntKind.i64.wrap v_11))), (.dat (.str ([] : List UInt8))), (.dat nilS), (.dat nilS)]))]) _ (by kernel_rfl) (z6 zt) rfl ?_
  refine TL_nilQ ?_
  refine T_turn [] [4] [] (mk 122 [(4, (rf 8 0))] [(0, gB0), (1, gB1), (2, gB2), (3, (.var [(.dat (.sl 1 (r_1.B.map elB))), (.dat (I v_12)), (.dat (B (v_13)))])), (8, (.var [(.dat (I 1)), (.dat (I (IntKind.i64.wrap v_11))), (.dat (.str ([] : List UInt8))), (.dat nilS), (.dat nilS)]))]) (by kernel_rfl) ?_
  refine T_arr [.nilC 8 3 5, .nilC 8 4 1, .ice 8] [4] [8] [0, 1, 2, 3] (mk 122 [(4, (dt (.ptr [(I 1), (I (IntKind.i64.wrap v_11)), (.str ([] : List UInt8)), (.sl 5 (([] : List Val).map encVal)), (.sl 1 (([] : List (List UInt8)).map elStr))])))] [(0, gB0), (1, gB1), (2, gB2), (3, (.var [(.dat (.sl 1 (r_1.B.map elB))), (.dat (I v_12)), (.dat (B (v_13)))]))]) (by kernel_rfl) ?_
  refine T_ret ?_
  obtain rfl := some_inv h
  exact ⟨[(.agg [(.dat (I 1)), (.dat (I (IntKind.i64.wrap v_11))), (.dat (.str ([] : List UInt8))), (.dat (.sl 5 (([] : List Val).map encVal))), (.dat (.sl 1 (([] : List (List UInt8)).map elStr)))])], by kernel_rfl, rfl⟩
  refine TL_inlineP 126 52 [] Tryd.f52 _ rfl rfl (by kernel_rfl) Tryd.func52 rfl rfl (by decide) ?_
  refine T_turn [] [0, 1, 2] [] (mk 98 [(0, (rf 3 0)), (1, (dt (.int .u8 101))), (2, (dt (.int .u64 9223372036854775807)))] [(0, gB0), (1, gB1), (2, gB2), (3, (.var [(.dat (.sl 1 (r_1.B.map elB))), (.dat (I (r_1.At + 1))), (.dat (B (v_9)))])), (8, (.var [(.dat (I 0)), (.dat (I 0)), (.dat (.str ([] : List UInt8))), (.dat nilS), (.dat nilS)]))]) (by kernel_rfl) ?_
  refine T_reg [] [0, 1, 2] [] (mk 98 [(0, (rf 3 0)), (1, (dt (.int .u8 101))), (2, (dt (.int .u64 9223372036854775807)))] [(0, gB0), (1, gB1), (2, gB2), (3, (.var [(.dat (.sl 1 (r_1.B.map elB))), (.dat (I (r_1.At + 1))), (.dat (B (v_9)))])), (8, (.var [(.dat (I 0)), (.dat (I 0)), (.dat (.str ([] : List UInt8))), (.dat nilS), (.dat nilS)]))]) _ (by kernel_rfl) (z2 zt) ?_
  refine T_reg [] [0, 1, 2, 7] [] (mk 98 [(0, (rf 3 0)), (1, (dt (.int .u8 101))), (2, (dt (.int .u64 9223372036854775807))), (7, (dt (.int .u64 0)))] [(0, gB0), (1, gB1), (2, gB2), (3, (.var [(.dat (.sl 1 (r_1.B.map elB))), (.dat (I (r_1.At + 1))), (.dat (B (v_9)))])), (8, (.var [(.dat (I 0)), (.dat (I 0)), (.dat (.str ([] : List UInt8))), (.dat nilS), (.dat nilS)]))]) _ (by kernel_rfl) (z2 zt) ?_
  refine T_reg [] [0, 1, 2, 7, 8] [] (mk 98 [(0, (rf 3 0)), (1, (dt (.int .u8 101))), (2, (dt (.int .u64 9223372036854775807))), (7, (dt (.int .u64 0))), (8, (di (r_1.At + 1)))] [(0, gB0), (1, gB1), (2, gB2), (3, (.var [(.dat (.sl 1 (r_1.B.map elB))), (.dat (I (r_1.At + 1))), (.dat (B (v_9)))])), (8, (.var [(.dat (I 0)), (.dat (I 0)), (.dat (.str ([] : List UInt8))), (.dat nilS), (.dat nilS)]))]) _ (by kernel_rfl) (z8 (z2 zt)) ?_
  refine T_seqJ (α := Int × Int × Bool) (fun ((n_14, v_15, v_16) : Int × Int × Bool) => (mk 98 [(0, (rf 3 0)), (2, (dt (.int .u64 9223372036854775807))), (7, (dt (.int .u64 n_14))), (8, (di (r_1.At + 1)))] [(0, gB0), (1, gB1), (2, gB2), (3, (.var [(.dat (.sl 1 (r_1.B.map elB))), (.dat (I v_15)), (.dat (B (v_16)))])), (8, (.var [(.dat (I 0)), (.dat (I 0)), (.dat (.str ([] : List UInt8))), (.dat nilS), (.dat nilS)]))])) (fun ((n_14, v_15, v_16) : Int × Int × Bool) => g__ref02_Reader_Value_s_j4 r_1 n_14 v_15 v_16 = some r) (fun v h => ?_) ?_
  obtain ⟨n_14, v_15, v_16⟩ := v
  refine T_seqJ (α := Bool) (fun (v_17 : Bool) => (mk 98 [(0, (rf 3 0)), (7, (dt (.int .u64 n_14)))] [(0, gB0), (1, gB1), (2, gB2), (3, (.var [(.dat (.sl 1 (r_1.B.map elB))), (.dat (I v_15)), (.dat (B (v_17)))])), (8, (.var [(.dat (I 0)), (.dat (I 0)), (.dat (.str ([] : List UInt8))), (.dat nilS), (.dat nilS)]))])) (fun (v_17 : Bool) => g__ref02_Reader_Value_s_j5 v_15 r_1 n_14 v_17 = some r) (fun v_17 h => ?_) ?_
  obtain ⟨c18, h⟩ := ckI_inv h
  refine T_reg (hl 5 [(4, (zd (I (v_15 + 1))))]) [7] [] (mk 98 [(7, (dt (.int .u64 n_14)))] [(0, gB0), (1, gB1), (2, gB2), (3, (.var [(.dat (.sl 1 (r_1.B.map elB))), (.dat (I (v_15 + 1))), (.dat (B (v_17)))])), (8, (.var [(.dat (I 0)), (.dat (I 0)), (.dat (.str ([] : List UInt8))), (.dat nilS), (.dat nilS)]))]) _ (by kernel_rfl) (z8 (z1 (zc c18 (z6 zt)))) ?_
  refine T_reg [] [6] [] (mk 98 [(6, (dt (.int .u64 n_14)))] [(0, gB0), (1, gB1), (2, gB2), (3, (.var [(.dat (.sl 1 (r_1.B.map elB))), (.dat (I (v_15 + 1))), (.dat (B (v_17)))])), (8, (.var [(.dat (I 0)), (.dat (I 0)), (.dat (.str ([] : List UInt8))), (.dat nilS), (.dat nilS)]))]) _ (by kernel_rfl) (z4 zt) ?_
  refine T_ret ?_
  refine ⟨[(dt (.int .u64 n_14))], by kernel_rfl, ?_⟩
  refine TL_nilQ ?_
  exact Exists.intro (n_14, (v_15 + 1), (v_17)) (And.intro h (arr [] [4, 30] [] [0, 1, 2, 3, 8] (by kernel_rfl)))
  refine T_seqJ (α := Bool) (fun (v_19 : Bool) => (mk 98 [(0, (rf 3 0)), (7, (dt (.int .u64 n_14))), (86, (db (v_19)))] [(0, gB0), (1, gB1), (2, gB2), (3, (.var [(.dat (.sl 1 (r_1.B.map elB))), (.dat (I v_15)), (.dat (B (v_16)))])), (8, (.var [(.dat (I 0)), (.dat (I 0)), (.dat (.str ([] : List UInt8))), (.dat nilS), (.dat nilS)]))])) (fun (v_19 : Bool) => g__ref02_Reader_Value_s_j6 v_15 r_1 n_14 v_16 v_19 = some r) (fun v_19 h => ?_) ?_
  refine T_cond (v_19) (by kernel_rfl) (fun b20 => ?_) (fun b20 => ?_)
  replace h := ite_t b20 h
  exact T_regJ [] [] [0, 7] [] [0, 1, 2, 3, 8] _ _ (by kernel_rfl) (z8 zt) (fun s hs => Exists.intro true (And.intro h hs))
  replace h := ite_f b20 h
  refine T_skip ?_
  exact Exists.intro (v_16) (And.intro h (arr [] [0, 7] [] [0, 1, 2, 3, 8] (by kernel_rfl)))
  rcases Bool.eq_false_or_eq_true (v_15 == (r_1.At + 1)) with b21 | b21
  replace h := ite_t b21 h
  exact T_regJ [zn, zn, zn, zn, zn, zn, zn, zg, zg, zg, (zd (B true))] [] [0, 7, 86] [] [0, 1, 2, 3, 8] _ _ (by kernel_rfl) (z8 (z6 (zc (gd_tf b21) (zc (gd_tf b21) (zc (gd_tf b21) (z1 (zc b21 zt))))))) (fun s hs => Exists.intro true (And.intro h hs))
  replace h := ite_f b21 h
  exact T_regJ (hl 11 [(10, (zd (B false)))]) [] [0, 7, 86] [] [0, 1, 2, 3, 8] _ _ (by kernel_rfl) (z8 (z6 (zc (gd_ff b21) (z1 (zc (gd_ff b21) (z1 (zc (gd_ff b21) (z2 (zc b21 zt))))))))) (fun s hs => Exists.intro (decide (n_14 > 9223372036854775807)) (And.intro h hs))
  refine T_block ?_
  refine T_arr [] [0, 1, 2, 7, 8] [] [0, 1, 2, 3, 8] _ (by kernel_rfl) (T_loopO (σ := Int × Int × Bool) (fun ((n_22, v_23, v_24) : Int × Int × Bool) => (mk 98 [(0, (rf 3 0)), (1, (dt (.int .u8 101))), (2, (dt (.int .u64 9223372036854775807))), (7, (dt (.int .u64 n_22))), (8, (di (r_1.At + 1)))] [(0, gB0), (1, gB1), (2, gB2), (3, (.var [(.dat (.sl 1 (r_1.B.map elB))), (.dat (I v_23)), (.dat (B (v_24)))])), (8, (.var [(.dat (I 0)), (.dat (I 0)), (.dat (.str ([] : List UInt8))), (.dat nilS), (.dat nilS)]))])) (g__ref02_Reader_Value_s_l7 r_1) (0, (r_1.At + 1), (v_9)) h (fun v y1 hy1 h => ?_))
  obtain ⟨n_22, v_23, v_24⟩ := v
  refine T_seq ?_
  refine T_seqJ (α := Bool × Bool) (fun ((v_28, v_29) : Bool × Bool) => (mk 98 [(0, (rf 3 0)), (1, (dt (.int .u8 101))), (2, (dt (.int .u64 9223372036854775807))), (7, (dt (.int .u64 n_22))), (8, (di (r_1.At + 1))), (24, (db (v_28)))] [(0, gB0), (1, gB1), (2, gB2), (3, (.var [(.dat (.sl 1 (r_1.B.map elB))), (.dat (I v_23)), (.dat (B (v_29)))])), (8, (.var [(.dat (I 0)), (.dat (I 0)), (.dat (.str ([] : List UInt8))), (.dat nilS), (.dat nilS)]))])) (fun ((v_28, v_29) : Bool × Bool) => g__ref02_Reader_Value_s_j8 v_23 r_1 n_22 v_28 v_29 = some y1) (fun v h => ?_) ?_
  obtain ⟨v_28, v_29⟩ := v
  refine T_cond (v_28) (by kernel_rfl) (fun b30 => ?_) (fun b30 => ?_)
  replace h := ite_t b30 h
  refine T_skip ?_
  refine T_block ?_
  refine T_seq (T_parts ?_)
  refine TL_part 1 [] (mk 98 [(0, (rf 3 0)), (1, (dt (.int .u8 101))), (2, (dt (.int .u64 9223372036854775807))), (7, (dt (.int .u64 n_22))), (8, (di (r_1.At + 1))), (24, (db (v_28))), (25, (rf 3 0))] [(0, gB0), (1, gB1), (2, gB2), (3, (.var [(.dat (.sl 1 (r_1.B.map elB))), (.dat (I v_23)), (.dat (B (v_29)))])), (8, (.var [(.dat (I 0)), (.dat (I 0)), (.dat (.str ([] : List UInt8))), (.dat nilS), (.dat nilS)]))]) _ (by kernel_rfl) (z2 zt) rfl ?_
  refine TL_consJ (α := Int × Bool) (fun ((v_31, v_32) : Int × Bool) => (mk 98 [(0, (rf 3 0)), (1, (dt (.int .u8 101))), (2, (dt (.int .u64 9223372036854775807))), (7, (dt (.int .u64 n_22))), (8, (di (r_1.At + 1))), (26, (dt (.int .u8 v_31)))] [(0, gB0), (1, gB1), (2, gB2), (3, (.var [(.dat (.sl 1 (r_1.B.map elB))), (.dat (I v_23)), (.dat (B (v_32)))])), (8, (.var [(.dat (I 0)), (.dat (I 0)), (.dat (.str ([] : List UInt8))), (.dat nilS), (.dat nilS)]))])) (fun ((v_31, v_32) : Int × Bool) => g__ref02_Reader_Value_s_j9 r_1 v_23 n_22 v_31 v_32 = some y1) (fun v h => ?_) ?_
  obtain ⟨v_31, v_32⟩ := v
  refine TL_turn [] [0, 1, 2, 7, 8, 26] [] (mk 98 [(0, (rf 3 0)), (1, (dt (.int .u8 101))), (2, (dt (.int .u64 9223372036854775807))), (7, (dt (.int .u64 n_22))), (8, (di (r_1.At + 1))), (26, (dt (.int .u8 v_31)))] [(0, gB0), (1, gB1), (2, gB2), (3, (.var [(.dat (.sl 1 (r_1.B.map elB))), (.dat (I v_23)), (.dat (B (v_32)))])), (8, (.var [(.dat (I 0)), (.dat (I 0)), (.dat (.str ([] : List UInt8))), (.dat nilS), (.dat nilS)]))]) (by kernel_rfl) ?_
  refine TL_part 1 [] (mk 98 [(0, (rf 3 0)), (1, (dt (.int .u8 101))), (2, (dt (.int .u64 9223372036854775807))), (7, (dt (.int .u64 n_22))), (8, (di (r_1.At + 1))), (9, (dt (.int .u8 v_31))), (26, (dt (.int .u8 v_31)))] [(0, gB0), (1, gB1), (2, gB2), (3, (.var [(.dat (.sl 1 (r_1.B.map elB))), (.dat (I v_23)), (.dat (B (v_32)))])), (8, (.var [(.dat (I 0)), (.dat (I 0)), (.dat (.str ([] : List UInt8))), (.dat nilS), (.dat nilS)]))]) _ (by kernel_rfl) (z2 zt) rfl ?_
  refine TL_nilQ ?_
  refine T_turn [] [0, 1, 2, 7, 8, 9] [] (mk 98 [(0, (rf 3 0)), (1, (dt (.int .u8 101))), (2, (dt (.int .u64 9223372036854775807))), (7, (dt (.int .u64 n_22))), (8, (di (r_1.At + 1))), (9, (dt (.int .u8 v_31)))] [(0, gB0), (1, gB1), (2, gB2), (3, (.var [(.dat (.sl 1 (r_1.B.map elB))), (.dat (I v_23)), (.dat (B (v_32)))])), (8, (.var [(.dat (I 0)), (.dat (I 0)), (.dat (.str ([] : List UInt8))), (.dat nilS), (.dat nilS)]))]) (by kernel_rfl) ?_
  refine T_seq ?_
  refine T_seqJ (α := Bool) (fun (v_33 : Bool) => (mk 98 [(0, (rf 3 0)), (1, (dt (.int .u8 101))), (2, (dt (.int .u64 9223372036854775807))), (7, (dt (.int .u64 n_22))), (8, (di (r_1.At + 1))), (9, (dt (.int .u8 v_31))), (59, (db (v_33)))] [(0, gB0), (1, gB1), (2, gB2), (3, (.var [(.dat (.sl 1 (r_1.B.map elB))), (.dat (I v_23)), (.dat (B (v_32)))])), (8, (.var [(.dat (I 0)), (.dat (I 0)), (.dat (.str ([] : List UInt8))), (.dat nilS), (.dat nilS)]))])) (fun (v_33 : Bool) => g__ref02_Reader_Value_s_j10 r_1 v_23 n_22 v_31 v_32 v_33 = some y1) (fun v_33 h => ?_) ?_
  refine T_cond (v_33) (by kernel_rfl) (fun b34 => ?_) (fun b34 => ?_)
  replace h := ite_t b34 h
  refine T_reg [] [] [] (mk 98 [] [(0, gB0), (1, gB1), (2, gB2), (3, (.var [(.dat (.sl 1 (r_1.B.map elB))), (.dat (I v_23)), (.dat (B true))])), (8, (.var [(.dat (I 0)), (.dat (I 0)), (.dat (.str ([] : List UInt8))), (.dat nilS), (.dat nilS)]))]) _ (by kernel_rfl) (z8 zt) ?_
  refine T_reg [] [6] [] (mk 98 [(6, (dt (.int .u64 0)))] [(0, gB0), (1, gB1), (2, gB2), (3, (.var [(.dat (.sl 1 (r_1.B.map elB))), (.dat (I v_23)), (.dat (B true))])), (8, (.var [(.dat (I 0)), (.dat (I 0)), (.dat (.str ([] : List UInt8))), (.dat nilS), (.dat nilS)]))]) _ (by kernel_rfl) (z2 zt) ?_
  refine T_ret ?_
  replace h := up_inv h hy1
  refine ⟨[(dt (.int .u64 0))], by kernel_rfl, ?_⟩
  refine TL_nilQ ?_
  exact Exists.intro (0, v_23, true) (And.intro h (arr [] [4, 30] [] [0, 1, 2, 3, 8] (by kernel_rfl)))
  replace h := ite_f b34 h
  refine T_skip ?_
  refine T_reg [] [0, 1, 2, 7, 8] [] (mk 98 [(0, (rf 3 0)), (1, (dt (.int .u8 101))), (2, (dt (.int .u64 9223372036854775807))), (7, (dt (.int .u64 (IntKind.u64.wrap ((IntKind.u64.wrap (10 * n_22)) + (IntKind.u64.wrap (IntKind.u8.wrap (v_31 - 48)))))))), (8, (di (r_1.At + 1)))] [(0, gB0), (1, gB1), (2, gB2), (3, (.var [(.dat (.sl 1 (r_1.B.map elB))), (.dat (I v_23)), (.dat (B (v_32)))])), (8, (.var [(.dat (I 0)), (.dat (I 0)), (.dat (.str ([] : List UInt8))), (.dat nilS), (.dat nilS)]))]) _ (by kernel_rfl) (z8 (z6 zt)) ?_
  obtain ⟨c35, h⟩ := ckI_inv h
  exact T_regJ (hl 5 [(4, (zd (I (v_23 + 1))))]) [] [0, 1, 2, 7, 8] [] [0, 1, 2, 3, 8] _ _ (by kernel_rfl) (z8 (z1 (zc c35 (z6 zt)))) (fun s hs => Exists.intro ((IntKind.u64.wrap ((IntKind.u64.wrap (10 * n_22)) + (IntKind.u64.wrap (IntKind.u8.wrap (v_31 - 48))))), (v_23 + 1), (v_32)) (And.intro h hs))
  rcases Bool.eq_false_or_eq_true (decide (v_31 < 48)) with b36 | b36
  replace h := ite_t b36 h
  exact T_regJ [zn, zn, zn, zg, zg, (zd (B true)), zn, zg, zg, zg, zg, zg, zg, zg, (zd (B true)), zn, zg, zg, zg, zg, zg, zg, zg, zn, zn, zn, zn, zn, zn, zn, zn, zg, (zd (B true))] [] [0, 1, 2, 7, 8, 9, 59] [] [0, 1, 2, 3, 8] _ _ (by kernel_rfl) (z6 (zc (gd_tf b36) (zc (gd_tf b36) (z1 (zc b36 (z2 (zc (gd_tf (rfl : true = true)) (zc (gd_tf (rfl : true = true)) (zc (gd_tf (rfl : true = true)) (zc (gd_tf (rfl : true = true)) (zc (gd_tf (rfl : true = true)) (zc (gd_tf (rfl : true = true)) (zc (gd_tf (rfl : true = true)) (z1 (zc (rfl : true = true) (z2 (zc (gd_tf (rfl : true = true)) (zc (gd_tf (rfl : true = true)) (zc (gd_tf (rfl : true = true)) (zc (gd_tf (rfl : true = true)) (zc (gd_tf (rfl : true = true)) (zc (gd_tf (rfl : true = true)) (zc (gd_tf (rfl : true = true)) (z8 (zc (gd_tf (rfl : true = true)) (z1 (zc (rfl : true = true) zt))))))))))))))))))))))))))) (fun s hs => Exists.intro true (And.intro h hs))
  replace h := ite_f b36 h
  rcases Bool.eq_false_or_eq_true (decide (v_31 > 57)) with b37 | b37
  replace h := ite_t b37 h
  exact T_regJ [zn, zn, zn, zn, zn, (zd (B false)), zn, zg, zg, zg, zg, zg, zg, zg, (zd (B true)), zn, zg, zg, zg, zg, zg, zg, zg, zn, zn, zn, zn, zn, zn, zn, zn, zg, (zd (B true))] [] [0, 1, 2, 7, 8, 9, 59] [] [0, 1, 2, 3, 8] _ _ (by kernel_rfl) (z6 (zc (gd_ff b36) (z1 (zc (gd_ff b36) (z2 (zc b36 (z2 (zc (gd_tf b37) (zc (gd_tf b37) (zc (gd_tf b37) (zc (gd_tf b37) (zc (gd_tf b37) (zc (gd_tf b37) (zc (gd_tf b37) (z1 (zc b37 (z2 (zc (gd_tf (rfl : true = true)) (zc (gd_tf (rfl : true = true)) (zc (gd_tf (rfl : true = true)) (zc (gd_tf (rfl : true = true)) (zc (gd_tf (rfl : true = true)) (zc (gd_tf (rfl : true = true)) (zc (gd_tf (rfl : true = true)) (z8 (zc (gd_tf (rfl : true = true)) (z1 (zc (rfl : true = true) zt)))))))))))))))))))))))))))) (fun s hs => Exists.intro true (And.intro h hs))
  replace h := ite_f b37 h
  obtain ⟨c38, h⟩ := ckI_inv h
  rcases Bool.eq_false_or_eq_true (decide ((v_23 - (r_1.At + 1)) > 18)) with b39 | b39
  replace h := ite_t b39 h
  exact T_regJ (hl 33 [(5, (zd (B false))), (12, (zd (I (v_23 - (r_1.At + 1))))), (14, (zd (B false))), (16, zg), (17, zg), (18, zg), (19, zg), (20, zg), (21, zg), (22, zg), (31, zg), (32, (zd (B true)))]) [] [0, 1, 2, 7, 8, 9, 59] [] [0, 1, 2, 3, 8] _ _ (by kernel_rfl) (z6 (zc (gd_ff b36) (z1 (zc (gd_ff b36) (z2 (zc b36 (z2 (zc (gd_ff b37) (z1 (zc (gd_ff b37) (z1 (zc (gd_ff b37) (z1 (zc (gd_ff b37) (z1 (zc (gd_ff b37) (z1 (zc (gd_ff b37) (zc c38 (zc (gd_ff b37) (z2 (zc b37 (z2 (zc (gd_tf b39) (zc (gd_tf b39) (zc (gd_tf b39) (zc (gd_tf b39) (zc (gd_tf b39) (zc (gd_tf b39) (zc (gd_tf b39) (z8 (zc (gd_tf b39) (z1 (zc b39 zt)))))))))))))))))))))))))))))))))) (fun s hs => Exists.intro true (And.intro h hs))
  replace h := ite_f b39 h
  rcases Bool.eq_false_or_eq_true (decide (v_23 > (r_1.At + 1))) with b40 | b40
  replace h := ite_t b40 h
  obtain ⟨x_41, e42, e43, e44, h⟩ := gt_inv elB h
  exact T_regJ (hl 33 [(5, (zd (B false))), (12, (zd (I (v_23 - (r_1.At + 1))))), (14, (zd (B false))), (28, (zd (.int .u8 ((x_41.toNat : Nat) : Int)))), (31, (zd (B true))), (32, (zd (B false)))]) [] [0, 1, 2, 7, 8, 9, 59] [] [0, 1, 2, 3, 8] _ _ (by kernel_rfl) (z6 (zc (gd_ff b36) (z1 (zc (gd_ff b36) (z2 (zc b36 (z2 (zc (gd_ff b37) (z1 (zc (gd_ff b37) (z1 (zc (gd_ff b37) (z1 (zc (gd_ff b37) (z1 (zc (gd_ff b37) (z1 (zc (gd_ff b37) (zc c38 (zc (gd_ff b37) (z2 (zc b37 (z2 (zc (gd_ff b39) (z1 (zc (gd_ff b39) (z1 (zc (gd_ff b39) (z1 (zc (gd_ff b39) (z1 (zc (gd_ff b39) (z1 (zc (gd_ff b39) (z1 (zc (gd_ff b39) (z1 (zc (gd_tt b40) (z1 (zc (gd_tt b40) (z1 (zc (gd_tt b40) (z1 (zc (gd_tt b40) (z1 (zc (gd_tt b40) (z1 (zc (gd_tt b40) (zc e42 (zc (gd_tt b40) (z1 (zc (gd_tt b40) (z1 (zc (gd_ff b39) (zc b40 (z1 (zc b39 zt))))))))))))))))))))))))))))))))))))))))))))))))))))))))) (fun s hs => Exists.intro (((x_41.toNat : Nat) : Int) == 48) (And.intro h hs))
  replace h := ite_f b40 h
  exact T_regJ [zn, zn, zn, zn, zn, (zd (B false)), zn, zn, zn, zn, zn, zn, (zd (I (v_23 - (r_1.At + 1)))), zn, (zd (B false)), zn, zn, zn, zn, zn, zn, zn, zn, zg, zg, zg, zg, zg, zg, zg, zg, (zd (B false)), (zd (B false))] [] [0, 1, 2, 7, 8, 9, 59] [] [0, 1, 2, 3, 8] _ _ (by kernel_rfl) (z6 (zc (gd_ff b36) (z1 (zc (gd_ff b36) (z2 (zc b36 (z2 (zc (gd_ff b37) (z1 (zc (gd_ff b37) (z1 (zc (gd_ff b37) (z1 (zc (gd_ff b37) (z1 (zc (gd_ff b37) (z1 (zc (gd_ff b37) (zc c38 (zc (gd_ff b37) (z2 (zc b37 (z2 (zc (gd_ff b39) (z1 (zc (gd_ff b39) (z1 (zc (gd_ff b39) (z1 (zc (gd_ff b39) (z1 (zc (gd_ff b39) (z1 (zc (gd_ff b39) (z1 (zc (gd_ff b39) (z1 (zc (gd_ft b40) (zc (gd_ft b40) (zc (gd_ft b40) (zc (gd_ft b40) (zc (gd_ft b40) (zc (gd_ft b40) (zc (gd_ft b40) (zc (gd_ft b40) (zc (gd_ff b39) (zc b40 (z1 (zc b39 zt))))))))))))))))))))))))))))))))))))))))))))))))) (fun s hs => Exists.intro false (And.intro h hs))
  refine TL_inlineP 224 51 [] Tryd.f51 _ rfl rfl (by kernel_rfl) Tryd.func51 rfl rfl (by decide) ?_
  refine T_turn [] [0] [] (mk 26 [(0, (rf 3 0))] [(0, gB0), (1, gB1), (2, gB2), (3, (.var [(.dat (.sl 1 (r_1.B.map elB))), (.dat (I v_23)), (.dat (B (v_29)))])), (8, (.var [(.dat (I 0)), (.dat (I 0)), (.dat (.str ([] : List UInt8))), (.dat nilS), (.dat nilS)]))]) (by kernel_rfl) ?_
  refine T_reg [] [0] [] (mk 26 [(0, (rf 3 0))] [(0, gB0), (1, gB1), (2, gB2), (3, (.var [(.dat (.sl 1 (r_1.B.map elB))), (.dat (I v_23)), (.dat (B (v_29)))])), (8, (.var [(.dat (I 0)), (.dat (I 0)), (.dat (.str ([] : List UInt8))), (.dat nilS), (.dat nilS)]))]) _ (by kernel_rfl) (z2 zt) ?_
  refine T_seq ?_
  refine T_regD 10 (hl 9 [(8, (zd (I ((r_1.B.length : Nat) : Int))))]) [0, 12] [] (mk 26 [(0, (rf 3 0)), (12, (db (decide (v_23 < ((r_1.B.length : Nat) : Int)))))] [(0, gB0), (1, gB1), (2, gB2), (3, (.var [(.dat (.sl 1 (r_1.B.map elB))), (.dat (I v_23)), (.dat (B (v_29)))])), (8, (.var [(.dat (I 0)), (.dat (I 0)), (.dat (.str ([] : List UInt8))), (.dat nilS), (.dat nilS)]))]) _ (by kernel_rfl) (by kernel_rfl) (by kernel_rfl) (zc (z8 (z8 (z1 (zc (len_s elB r_1.B) (z2 zt))))) zt) ?_
  refine T_cond (decide (v_23 < ((r_1.B.length : Nat) : Int))) (by kernel_rfl) (fun b45 => ?_) (fun b45 => ?_)
  replace h := ite_t b45 h
  obtain ⟨x_46, e47, e48, e49, h⟩ := gt_inv elB h
  refine T_regD 11 (hl 9 [(8, (zd (.int .u8 ((x_46.toNat : Nat) : Int))))]) [2] [] (mk 26 [(2, (dt (.int .u8 ((x_46.toNat : Nat) : Int))))] [(0, gB0), (1, gB1), (2, gB2), (3, (.var [(.dat (.sl 1 (r_1.B.map elB))), (.dat (I v_23)), (.dat (B (v_29)))])), (8, (.var [(.dat (I 0)), (.dat (I 0)), (.dat (.str ([] : List UInt8))), (.dat nilS), (.dat nilS)]))]) _ (by kernel_rfl) (by kernel_rfl) (by kernel_rfl) (zc (z8 (z8 (z1 (zc e47 (z4 zt))))) zt) ?_
  refine T_ret ?_
  refine ⟨[(dt (.int .u8 ((x_46.toNat : Nat) : Int)))], by kernel_rfl, ?_⟩
  refine TL_nilQ ?_
  exact Exists.intro (((x_46.toNat : Nat) : Int), (v_29)) (And.intro h (arr [] [0, 1, 2, 7, 8, 26] [] [0, 1, 2, 3, 8] (by kernel_rfl)))
  replace h := ite_f b45 h
  refine T_skip ?_
  refine T_reg [] [] [] (mk 26 [] [(0, gB0), (1, gB1), (2, gB2), (3, (.var [(.dat (.sl 1 (r_1.B.map elB))), (.dat (I v_23)), (.dat (B true))])), (8, (.var [(.dat (I 0)), (.dat (I 0)), (.dat (.str ([] : List UInt8))), (.dat nilS), (.dat nilS)]))]) _ (by kernel_rfl) (z8 zt) ?_
  refine T_reg [] [2] [] (mk 26 [(2, (dt (.int .u8 0)))] [(0, gB0), (1, gB1), (2, gB2), (3, (.var [(.dat (.sl 1 (r_1.B.map elB))), (.dat (I v_23)), (.dat (B true))])), (8, (.var [(.dat (I 0)), (.dat (I 0)), (.dat (.str ([] : List UInt8))), (.dat nilS), (.dat nilS)]))]) _ (by kernel_rfl) (z2 zt) ?_
  refine T_ret ?_
  refine ⟨[(dt (.int .u8 0))], by kernel_rfl, ?_⟩
  refine TL_nilQ ?_
  exact Exists.intro (0, true) (And.intro h (arr [] [0, 1, 2, 7, 8, 26] [] [0, 1, 2, 3, 8] (by kernel_rfl)))
  replace h := ite_f b30 h
  refine T_exit ?_
  replace h := up_inv h hy1
  exact Exists.intro (n_22, v_23, (v_29)) (And.intro h (arr [] [0, 2, 7, 8] [] [0, 1, 2, 3, 8] (by kernel_rfl)))
  rcases Bool.eq_false_or_eq_true (!(v_24)) with b50 | b50
  replace h := ite_t b50 h
  refine T_parts ?_
  refine TL_part 7 [] (mk 98 [(0, (rf 3 0)), (1, (dt (.int .u8 101))), (2, (dt (.int .u64 9223372036854775807))), (7, (dt (.int .u64 n_22))), (8, (di (r_1.At + 1))), (14, (rf 3 0)), (15, (rf 3 0)), (16, (rf 3 2)), (17, (db (v_24))), (18, (db (!(v_24)))), (19, (db (!(v_24)))), (20, (rf 3 0))] [(0, gB0), (1, gB1), (2, gB2), (3, (.var [(.dat (.sl 1 (r_1.B.map elB))), (.dat (I v_23)), (.dat (B (v_24)))])), (8, (.var [(.dat (I 0)), (.dat (I 0)), (.dat (.str ([] : List UInt8))), (.dat nilS), (.dat nilS)]))]) _ (by kernel_rfl) (z8 (z4 (zc (gd_tt b50) (z1 zt)))) rfl ?_
  refine TL_guard (p := ((!(v_24)) == true) = true) (by kernel_rfl) (gd_tt b50) ?_
  refine TL_consJ (α := Int × Bool) (fun ((v_51, v_52) : Int × Bool) => (mk 98 [(0, (rf 3 0)), (1, (dt (.int .u8 101))), (2, (dt (.int .u64 9223372036854775807))), (7, (dt (.int .u64 n_22))), (8, (di (r_1.At + 1))), (19, (db (!(v_24)))), (21, (dt (.int .u8 v_51)))] [(0, gB0), (1, gB1), (2, gB2), (3, (.var [(.dat (.sl 1 (r_1.B.map elB))), (.dat (I v_23)), (.dat (B (v_52)))])), (8, (.var [(.dat (I 0)), (.dat (I 0)), (.dat (.str ([] : List UInt8))), (.dat nilS), (.dat nilS)]))])) (fun ((v_51, v_52) : Int × Bool) => g__ref02_Reader_Value_s_j11 v_23 r_1 n_22 v_24 v_51 v_52 = some y1) (fun v h => ?_) ?_
  obtain ⟨v_51, v_52⟩ := v
  refine TL_turn [] [0, 1, 2, 7, 8, 19, 21] [] (mk 98 [(0, (rf 3 0)), (1, (dt (.int .u8 101))), (2, (dt (.int .u64 9223372036854775807))), (7, (dt (.int .u64 n_22))), (8, (di (r_1.At + 1))), (19, (db (!(v_24)))), (21, (dt (.int .u8 v_51)))] [(0, gB0), (1, gB1), (2, gB2), (3, (.var [(.dat (.sl 1 (r_1.B.map elB))), (.dat (I v_23)), (.dat (B (v_52)))])), (8, (.var [(.dat (I 0)), (.dat (I 0)), (.dat (.str ([] : List UInt8))), (.dat nilS), (.dat nilS)]))]) (by kernel_rfl) ?_
  refine TL_part 3 [zn, zn, (zd (B true))] (mk 98 [(0, (rf 3 0)), (1, (dt (.int .u8 101))), (2, (dt (.int .u64 9223372036854775807))), (7, (dt (.int .u64 n_22))), (8, (di (r_1.At + 1))), (19, (db (!(v_24)))), (21, (dt (.int .u8 v_51))), (22, (dt (.int .u8 101))), (23, (db (v_51 != 101))), (24, (db (v_51 != 101)))] [(0, gB0), (1, gB1), (2, gB2), (3, (.var [(.dat (.sl 1 (r_1.B.map elB))), (.dat (I v_23)), (.dat (B (v_52)))])), (8, (.var [(.dat (I 0)), (.dat (I 0)), (.dat (.str ([] : List UInt8))), (.dat nilS), (.dat nilS)]))]) _ (by kernel_rfl) (zc (gd_tt b50) (z1 (zc (gd_tt b50) (z2 (zc b50 zt))))) rfl ?_
  refine TL_nilQ ?_
  exact Exists.intro ((v_51 != 101), (v_52)) (And.intro h (arr [] [0, 1, 2, 7, 8, 24] [] [0, 1, 2, 3, 8] (by kernel_rfl)))
  refine TL_inlineP 224 51 [] Tryd.f51 _ rfl rfl (by kernel_rfl) Tryd.func51 rfl rfl (by decide) ?_
  refine T_turn [] [0] [] (mk 26 [(0, (rf 3 0))] [(0, gB0), (1, gB1), (2, gB2), (3, (.var [(.dat (.sl 1 (r_1.B.map elB))), (.dat (I v_23)), (.dat (B (v_24)))])), (8, (.var [(.dat (I 0)), (.dat (I 0)), (.dat (.str ([] : List UInt8))), (.dat nilS), (.dat nilS)]))]) (by kernel_rfl) ?_
  refine T_reg [] [0] [] (mk 26 [(0, (rf 3 0))] [(0, gB0), (1, gB1), (2, gB2), (3, (.var [(.dat (.sl 1 (r_1.B.map elB))), (.dat (I v_23)), (.dat (B (v_24)))])), (8, (.var [(.dat (I 0)), (.dat (I 0)), (.dat (.str ([] : List UInt8))), (.dat nilS), (.dat nilS)]))]) _ (by kernel_rfl) (z2 zt) ?_
  refine T_seq ?_
  refine T_regD 10 (hl 9 [(8, (zd (I ((r_1.B.length : Nat) : Int))))]) [0, 12] [] (mk 26 [(0, (rf 3 0)), (12, (db (decide (v_23 < ((r_1.B.length : Nat) : Int)))))] [(0, gB0), (1, gB1), (2, gB2), (3, (.var [(.dat (.sl 1 (r_1.B.map elB))), (.dat (I v_23)), (.dat (B (v_24)))])), (8, (.var [(.dat (I 0)), (.dat (I 0)), (.dat (.str ([] : List UInt8))), (.dat nilS), (.dat nilS)]))]) _ (by kernel_rfl) (by kernel_rfl) (by kernel_rfl) (zc (z8 (z8 (z1 (zc (len_s elB r_1.B) (z2 zt))))) zt) ?_
  refine T_cond (decide (v_23 < ((r_1.B.length : Nat) : Int))) (by kernel_rfl) (fun b53 => ?_) (fun b53 => ?_)
  replace h := ite_t b53 h
  obtain ⟨x_54, e55, e56, e57, h⟩ := gt_inv elB h
  refine T_regD 11 (hl 9 [(8, (zd (.int .u8 ((x_54.toNat : Nat) : Int))))]) [2] [] (mk 26 [(2, (dt (.int .u8 ((x_54.toNat : Nat) : Int))))] [(0, gB0), (1, gB1), (2, gB2), (3, (.var [(.dat (.sl 1 (r_1.B.map elB))), (.dat (I v_23)), (.dat (B (v_24)))])), (8, (.var [(.dat (I 0)), (.dat (I 0)), (.dat (.str ([] : List UInt8))), (.dat nilS), (.dat nilS)]))]) _ (by kernel_rfl) (by kernel_rfl) (by kernel_rfl) (zc (z8 (z8 (z1 (zc e55 (z4 zt))))) zt) ?_
  refine T_ret ?_
  refine ⟨[(dt (.int .u8 ((x_54.toNat : Nat) : Int)))], by kernel_rfl, ?_⟩
  refine TL_nilQ ?_
  exact Exists.intro (((x_54.toNat : Nat) : Int), (v_24)) (And.intro h (arr [] [0, 1, 2, 7, 8, 19, 21] [] [0, 1, 2, 3, 8] (by kernel_rfl)))
  replace h := ite_f b53 h
  refine T_skip ?_
  refine T_reg [] [] [] (mk 26 [] [(0, gB0), (1, gB1), (2, gB2), (3, (.var [(.dat (.sl 1 (r_1.B.map elB))), (.dat (I v_23)), (.dat (B true))])), (8, (.var [(.dat (I 0)), (.dat (I 0)), (.dat (.str ([] : List UInt8))), (.dat nilS), (.dat nilS)]))]) _ (by kernel_rfl) (z8 zt) ?_
  refine T_reg [] [2] [] (mk 26 [(2, (dt (.int .u8 0)))] [(0, gB0), (1, gB1), (2, gB2), (3, (.var [(.dat (.sl 1 (r_1.B.map elB))), (.dat (I v_23)), (.dat (B true))])), (8, (.var [(.dat (I 0)), (.dat (I 0)), (.dat (.str ([] : List UInt8))), (.dat nilS), (.dat nilS)]))]) _ (by kernel_rfl) (z2 zt) ?_
  refine T_ret ?_
  refine ⟨[(dt (.int .u8 0))], by kernel_rfl, ?_⟩
  refine TL_nilQ ?_
  exact Exists.intro (0, true) (And.intro h (arr [] [0, 1, 2, 7, 8, 19, 21] [] [0, 1, 2, 3, 8] (by kernel_rfl)))
  replace h := ite_f b50 h
  exact T_regJ [zn, zn, zn, zn, zn, zn, zg, zg, zg, zg, (zd (B false))] [] [0, 1, 2, 7, 8, 24] [] [0, 1, 2, 3, 8] _ _ (by kernel_rfl) (z8 (z4 (zc (gd_ft b50) (zc (gd_ft b50) (zc (gd_ft b50) (zc (gd_ft b50) (z1 (zc b50 zt)))))))) (fun s hs => Exists.intro (false, (v_24)) (And.intro h hs))
  replace h := ite_f b10 h
  refine T_skip ?_
  obtain ⟨c58, h⟩ := ckI_inv h
  refine T_reg (hl 5 [(4, (zd (I ((r_1.At + 1) + 1))))]) [0, 4] [] (mk 122 [(0, (rf 3 0)), (4, (rf 8 0))] [(0, gB0), (1, gB1), (2, gB2), (3, (.var [(.dat (.sl 1 (r_1.B.map elB))), (.dat (I ((r_1.At + 1) + 1))), (.dat (B (v_9)))])), (8, (.var [(.dat (I 0)), (.dat (I 0)), (.dat (.str ([] : List UInt8))), (.dat nilS), (.dat nilS)]))]) _ (by kernel_rfl) (z8 (z1 (zc c58 (z6 zt)))) ?_
  refine T_seq (T_parts ?_)
  refine TL_part 1 [] (mk 122 [(0, (rf 3 0)), (4, (rf 8 0)), (40, (rf 3 0))] [(0, gB0), (1, gB1), (2, gB2), (3, (.var [(.dat (.sl 1 (r_1.B.map elB))), (.dat (I ((r_1.At + 1) + 1))), (.dat (B (v_9)))])), (8, (.var [(.dat (I 0)), (.dat (I 0)), (.dat (.str ([] : List UInt8))), (.dat nilS), (.dat nilS)]))]) _ (by kernel_rfl) (z2 zt) rfl ?_
  refine TL_consJ (α := Int × Int × Bool) (fun ((v_59, v_60, v_61) : Int × Int × Bool) => (mk 122 [(0, (rf 3 0)), (4, (rf 8 0)), (41, (dt (.int .u64 v_59)))] [(0, gB0), (1, gB1), (2, gB2), (3, (.var [(.dat (.sl 1 (r_1.B.map elB))), (.dat (I v_60)), (.dat (B (v_61)))])), (8, (.var [(.dat (I 0)), (.dat (I 0)), (.dat (.str ([] : List UInt8))), (.dat nilS), (.dat nilS)]))])) (fun ((v_59, v_60, v_61) : Int × Int × Bool) => g__ref02_Reader_Value_s_j12 r_1 v_59 v_60 v_61 = some r) (fun v h => ?_) ?_
  obtain ⟨v_59, v_60, v_61⟩ := v
  refine TL_turn [] [0, 4, 41] [] (mk 122 [(0, (rf 3 0)), (4, (rf 8 0)), (41, (dt (.int .u64 v_59)))] [(0, gB0), (1, gB1), (2, gB2), (3, (.var [(.dat (.sl 1 (r_1.B.map elB))), (.dat (I v_60)), (.dat (B (v_61)))])), (8, (.var [(.dat (I 0)), (.dat (I 0)), (.dat (.str ([] : List UInt8))), (.dat nilS), (.dat nilS)]))]) (by kernel_rfl) ?_
  refine TL_part 1 [] (mk 122 [(0, (rf 3 0)), (4, (rf 8 0)), (6, (dt (.int .u64 v_59))), (41, (dt (.int .u64 v_59)))] [(0, gB0), (1, gB1), (2, gB2), (3, (.var [(.dat (.sl 1 (r_1.B.map elB))), (.dat (I v_60)), (.dat (B (v_61)))])), (8, (.var [(.dat (I 0)), (.dat (I 0)), (.dat (.str ([] : List UInt8))), (.dat nilS), (.dat nilS)]))]) _ (by kernel_rfl) (z2 zt) rfl ?_
  refine TL_nilQ ?_
  refine T_turn [] [0, 4, 6] [] (mk 122 [(0, (rf 3 0)), (4, (rf 8 0)), (6, (dt (.int .u64 v_59)))] [(0, gB0), (1, gB1), (2, gB2), (3, (.var [(.dat (.sl 1 (r_1.B.map elB))), (.dat (I v_60)), (.dat (B (v_61)))])), (8, (.var [(.dat (I 0)), (.dat (I 0)), (.dat (.str ([] : List UInt8))), (.dat nilS), (.dat nilS)]))]) (by kernel_rfl) ?_
  refine T_seq ?_
  refine T_reg [] [0, 4, 6, 43] [] (mk 122 [(0, (rf 3 0)), (4, (rf 8 0)), (6, (dt (.int .u64 v_59))), (43, (db (v_59 == 0)))] [(0, gB0), (1, gB1), (2, gB2), (3, (.var [(.dat (.sl 1 (r_1.B.map elB))), (.dat (I v_60)), (.dat (B (v_61)))])), (8, (.var [(.dat (I 0)), (.dat (I 0)), (.dat (.str ([] : List UInt8))), (.dat nilS), (.dat nilS)]))]) _ (by kernel_rfl) (z4 zt) ?_
  refine T_cond (v_59 == 0) (by kernel_rfl) (fun b62 => ?_) (fun b62 => ?_)
  replace h := ite_t b62 h
  refine T_reg [] [4] [] (mk 122 [(4, (rf 8 0))] [(0, gB0), (1, gB1), (2, gB2), (3, (.var [(.dat (.sl 1 (r_1.B.map elB))), (.dat (I v_60)), (.dat (B true))])), (8, (.var [(.dat (I 0)), (.dat (I 0)), (.dat (.str ([] : List UInt8))), (.dat nilS), (.dat nilS)]))]) _ (by kernel_rfl) (z8 zt) ?_
  refine T_reg [] [4] [] (mk 122 [(4, (rf 8 0))] [(0, gB0), (1, gB1), (2, gB2), (3, (.var [(.dat (.sl 1 (r_1.B.map elB))), (.dat (I v_60)), (.dat (B true))])), (8, (.var [(.dat (I 0)), (.dat (I 0)), (.dat (.str ([] : List UInt8))), (.dat nilS), (.dat nilS)]))]) _ (by kernel_rfl) (z4 zt) ?_
  refine T_arr [.nilC 8 3 5, .nilC 8 4 1, .ice 8] [4] [8] [0, 1, 2, 3] (mk 122 [(4, (dt (.ptr [(I 0), (I 0), (.str ([] : List UInt8)), (.sl 5 (([] : List Val).map encVal)), (.sl 1 (([] : List (List UInt8)).map elStr))])))] [(0, gB0), (1, gB1), (2, gB2), (3, (.var [(.dat (.sl 1 (r_1.B.map elB))), (.dat (I v_60)), (.dat (B true))]))]) (by kernel_rfl) ?_
  refine T_ret ?_
  obtain rfl := some_inv h
  exact ⟨[(.agg [(.dat (I 0)), (.dat (I 0)), (.dat (.str ([] : List UInt8))), (.dat (.sl 5 (([] : List Val).map encVal))), (.dat (.sl 1 (([] : List (List UInt8)).map elStr)))])], by kernel_rfl, rfl⟩
  replace h := ite_f b62 h
  refine T_skip ?_
  refine T_reg [] [4] [] (mk 122 [(4, (rf 8 0))] [(0, gB0), (1, gB1), (2, gB2), (3, (.var [(.dat (.sl 1 (r_1.B.map elB))), (.dat (I v_60)), (.dat (B (v_61)))])), (8, (.var [(.dat (I 1)), (.dat (I (IntKind.i64.wrap ((IntKind.i64.wrap (0 - (IntKind.i64.wrap (IntKind.u64.wrap (v_59 - 1))))) - 1)))), (.dat (.str ([] : List UInt8))), (.dat nilS), (.dat nilS)]))]) _ (by kernel_rfl) (z8 (z6 zt)) ?_
  refine T_arr [.nilC 8 3 5, .nilC 8 4 1, .ice 8] [4] [8] [0, 1, 2, 3] (mk 122 [(4, (dt (.ptr [(I 1), (I (IntKind.i64.wrap ((IntKind.i64.wrap (0 - (IntKind.i64.wrap (IntKind.u64.wrap (v_59 - 1))))) - 1))), (.str ([] : List UInt8)), (.sl 5 (([] : List Val).map encVal)), (.sl 1 (([] : List (List UInt8)).map elStr))])))] [(0, gB0), (1, gB1), (2, gB2), (3, (.var [(.dat (.sl 1 (r_1.B.map elB))), (.dat (I v_60)), (.dat (B (v_61)))]))]) (by kernel_rfl) ?_
  refine T_ret ?_
  obtain rfl := some_inv h
  exact ⟨[(.agg [(.dat (I 1)), (.dat (I (IntKind.i64.wrap ((IntKind.i64.wrap (0 - (IntKind.i64.wrap (IntKind.u64.wrap (v_59 - 1))))) - 1)))), (.dat (.str ([] : List UInt8))), (.dat (.sl 5 (([] : List Val).map encVal))), (.dat (.sl 1 (([] : List (List UInt8)).map elStr)))])], by kernel_rfl, rfl⟩
  refine TL_inlineP 126 52 [] Tryd.f52 _ rfl rfl (by kernel_rfl) Tryd.func52 rfl rfl (by decide) ?_
  refine T_turn [] [0, 1, 2] [] (mk 98 [(0, (rf 3 0)), (1, (dt (.int .u8 101))), (2, (dt (.int .u64 9223372036854775808)))] [(0, gB0), (1, gB1), (2, gB2), (3, (.var [(.dat (.sl 1 (r_1.B.map elB))), (.dat (I ((r_1.At + 1) + 1))), (.dat (B (v_9)))])), (8, (.var [(.dat (I 0)), (.dat (I 0)), (.dat (.str ([] : List UInt8))), (.dat nilS), (.dat nilS)]))]) (by kernel_rfl) ?_
  refine T_reg [] [0, 1, 2] [] (mk 98 [(0, (rf 3 0)), (1, (dt (.int .u8 101))), (2, (dt (.int .u64 9223372036854775808)))] [(0, gB0), (1, gB1), (2, gB2), (3, (.var [(.dat (.sl 1 (r_1.B.map elB))), (.dat (I ((r_1.At + 1) + 1))), (.dat (B (v_9)))])), (8, (.var [(.dat (I 0)), (.dat (I 0)), (.dat (.str ([] : List UInt8))), (.dat nilS), (.dat nilS)]))]) _ (by kernel_rfl) (z2 zt) ?_
  refine T_reg [] [0, 1, 2, 7] [] (mk 98 [(0, (rf 3 0)), (1, (dt (.int .u8 101))), (2, (dt (.int .u64 9223372036854775808))), (7, (dt (.int .u64 0)))] [(0, gB0), (1, gB1), (2, gB2), (3, (.var [(.dat (.sl 1 (r_1.B.map elB))), (.dat (I ((r_1.At + 1) + 1))), (.dat (B (v_9)))])), (8, (.var [(.dat (I 0)), (.dat (I 0)), (.dat (.str ([] : List UInt8))), (.dat nilS), (.dat nilS)]))]) _ (by kernel_rfl) (z2 zt) ?_
  refine T_reg [] [0, 1, 2, 7, 8] [] (mk 98 [(0, (rf 3 0)), (1, (dt (.int .u8 101))), (2, (dt (.int .u64 9223372036854775808))), (7, (dt (.int .u64 0))), (8, (di ((r_1.At + 1) + 1)))] [(0, gB0), (1, gB1), (2, gB2), (3, (.var [(.dat (.sl 1 (r_1.B.map elB))), (.dat (I ((r_1.At + 1) + 1))), (.dat (B (v_9)))])), (8, (.var [(.dat (I 0)), (.dat (I 0)), (.dat (.str ([] : List UInt8))), (.dat nilS), (.dat nilS)]))]) _ (by kernel_rfl) (z8 (z2 zt)) ?_
  refine T_seqJ (α := Int × Int × Bool) (fun ((n_63, v_64, v_65) : Int × Int × Bool) => (mk 98 [(0, (rf 3 0)), (2, (dt (.int .u64 9223372036854775808))), (7, (dt (.int .u64 n_63))), (8, (di ((r_1.At + 1) + 1)))] [(0, gB0), (1, gB1), (2, gB2), (3, (.var [(.dat (.sl 1 (r_1.B.map elB))), (.dat (I v_64)), (.dat (B (v_65)))])), (8, (.var [(.dat (I 0)), (.dat (I 0)), (.dat (.str ([] : List UInt8))), (.dat nilS), (.dat nilS)]))])) (fun ((n_63, v_64, v_65) : Int × Int × Bool) => g__ref02_Reader_Value_s_j13 r_1 n_63 v_64 v_65 = some r) (fun v h => ?_) ?_
  obtain ⟨n_63, v_64, v_65⟩ := v
  refine T_seqJ (α := Bool) (fun (v_66 : Bool) => (mk 98 [(0, (rf 3 0)), (7, (dt (.int .u64 n_63)))] [(0, gB0), (1, gB1), (2, gB2), (3, (.var [(.dat (.sl 1 (r_1.B.map elB))), (.dat (I v_64)), (.dat (B (v_66)))])), (8, (.var [(.dat (I 0)), (.dat (I 0)), (.dat (.str ([] : List UInt8))), (.dat nilS), (.dat nilS)]))])) (fun (v_66 : Bool) => g__ref02_Reader_Value_s_j14 v_64 r_1 n_63 v_66 = some r) (fun v_66 h => ?_) ?_
  obtain ⟨c67, h⟩ := ckI_inv h
  refine T_reg (hl 5 [(4, (zd (I (v_64 + 1))))]) [7] [] (mk 98 [(7, (dt (.int .u64 n_63)))] [(0, gB0), (1, gB1), (2, gB2), (3, (.var [(.dat (.sl 1 (r_1.B.map elB))), (.dat (I (v_64 + 1))), (.dat (B (v_66)))])), (8, (.var [(.dat (I 0)), (.dat (I 0)), (.dat (.str ([] : List UInt8))), (.dat nilS), (.dat nilS)]))]) _ (by kernel_rfl) (z8 (z1 (zc c67 (z6 zt)))) ?_
  refine T_reg [] [6] [] (mk 98 [(6, (dt (.int .u64 n_63)))] [(0, gB0), (1, gB1), (2, gB2), (3, (.var [(.dat (.sl 1 (r_1.B.map elB))), (.dat (I (v_64 + 1))), (.dat (B (v_66)))])), (8, (.var [(.dat (I 0)), (.dat (I 0)), (.dat (.str ([] : List UInt8))), (.dat nilS), (.dat nilS)]))]) _ (by kernel_rfl) (z4 zt) ?_
  refine T_ret ?_
  refine ⟨[(dt (.int .u64 n_63))], by kernel_rfl, ?_⟩
  refine TL_nilQ ?_
  exact Exists.intro (n_63, (v_64 + 1), (v_66)) (And.intro h (arr [] [0, 4, 41] [] [0, 1, 2, 3, 8] (by kernel_rfl)))
  refine T_seqJ (α := Bool) (fun (v_68 : Bool) => (mk 98 [(0, (rf 3 0)), (7, (dt (.int .u64 n_63))), (86, (db (v_68)))] [(0, gB0), (1, gB1), (2, gB2), (3, (.var [(.dat (.sl 1 (r_1.B.map elB))), (.dat (I v_64)), (.dat (B (v_65)))])), (8, (.var [(.dat (I 0)), (.dat (I 0)), (.dat (.str ([] : List UInt8))), (.dat nilS), (.dat nilS)]))])) (fun (v_68 : Bool) => g__ref02_Reader_Value_s_j15 v_64 r_1 n_63 v_65 v_68 = some r) (fun v_68 h => ?_) ?_
  refine T_cond (v_68) (by kernel_rfl) (fun b69 => ?_) (fun b69 => ?_)
  replace h := ite_t b69 h
  exact T_regJ [] [] [0, 7] [] [0, 1, 2, 3, 8] _ _ (by kernel_rfl) (z8 zt) (fun s hs => Exists.intro true (And.intro h hs))
  replace h := ite_f b69 h
  refine T_skip ?_
  exact Exists.intro (v_65) (And.intro h (arr [] [0, 7] [] [0, 1, 2, 3, 8] (by kernel_rfl)))
  rcases Bool.eq_false_or_eq_true (v_64 == ((r_1.At + 1) + 1)) with b70 | b70
  replace h := ite_t b70 h
  exact T_regJ [zn, zn, zn, zn, zn, zn, zn, zg, zg, zg, (zd (B true))] [] [0, 7, 86] [] [0, 1, 2, 3, 8] _ _ (by kernel_rfl) (z8 (z6 (zc (gd_tf b70) (zc (gd_tf b70) (zc (gd_tf b70) (z1 (zc b70 zt))))))) (fun s hs => Exists.intro true (And.intro h hs))
  replace h := ite_f b70 h
  exact T_regJ (hl 11 [(10, (zd (B false)))]) [] [0, 7, 86] [] [0, 1, 2, 3, 8] _ _ (by kernel_rfl) (z8 (z6 (zc (gd_ff b70) (z1 (zc (gd_ff b70) (z1 (zc (gd_ff b70) (z2 (zc b70 zt))))))))) (fun s hs => Exists.intro (decide (n_63 > 9223372036854775808)) (And.intro h hs))
  refine T_block ?_
  refine T_arr [] [0, 1, 2, 7, 8] [] [0, 1, 2, 3, 8] _ (by kernel_rfl) (T_loopO (σ := Int × Int × Bool) (fun ((n_71, v_72, v_73) : Int × Int × Bool) => (mk 98 [(0, (rf 3 0)), (1, (dt (.int .u8 101))), (2, (dt (.int .u64 9223372036854775808))), (7, (dt (.int .u64 n_71))), (8, (di ((r_1.At + 1) + 1)))] [(0, gB0), (1, gB1), (2, gB2), (3, (.var [(.dat (.sl 1 (r_1.B.map elB))), (.dat (I v_72)), (.dat (B (v_73)))])), (8, (.var [(.dat (I 0)), (.dat (I 0)), (.dat (.str ([] : List UInt8))), (.dat nilS), (.dat nilS)]))])) (g__ref02_Reader_Value_s_l16 r_1) (0, ((r_1.At + 1) + 1), (v_9)) h (fun v y1 hy1 h => ?_))
  obtain ⟨n_71, v_72, v_73⟩ := v
  refine T_seq ?_
  refine T_seqJ (α := Bool × Bool) (fun ((v_77, v_78) : Bool × Bool) => (mk 98 [(0, (rf 3 0)), (1, (dt (.int .u8 101))), (2, (dt (.int .u64 9223372036854775808))), (7, (dt (.int .u64 n_71))), (8, (di ((r_1.At + 1) + 1))), (24, (db (v_77)))] [(0, gB0), (1, gB1), (2, gB2), (3, (.var [(.dat (.sl 1 (r_1.B.map elB))), (.dat (I v_72)), (.dat (B (v_78)))])), (8, (.var [(.dat (I 0)), (.dat (I 0)), (.dat (.str ([] : List UInt8))), (.dat nilS), (.dat nilS)]))])) (fun ((v_77, v_78) : Bool × Bool) => g__ref02_Reader_Value_s_j17 v_72 r_1 n_71 v_77 v_78 = some y1) (fun v h => ?_) ?_
  obtain ⟨v_77, v_78⟩ := v
  refine T_cond (v_77) (by kernel_rfl) (fun b79 => ?_) (fun b79 => ?_)
  replace h := ite_t b79 h
  refine T_skip ?_
  refine T_block ?_
  refine T_seq (T_parts ?_)
  refine TL_part 1 [] (mk 98 [(0, (rf 3 0)), (1, (dt (.int .u8 101))), (2, (dt (.int .u64 9223372036854775808))), (7, (dt (.int .u64 n_71))), (8, (di ((r_1.At + 1) + 1))), (24, (db (v_77))), (25, (rf 3 0))] [(0, gB0), (1, gB1), (2, gB2), (3, (.var [(.dat (.sl 1 (r_1.B.map elB))), (.dat (I v_72)), (.dat (B (v_78)))])), (8, (.var [(.dat (I 0)), (.dat (I 0)), (.dat (.str ([] : List UInt8))), (.dat nilS), (.dat nilS)]))]) _ (by kernel_rfl) (z2 zt) rfl ?_
  refine TL_consJ (α := Int × Bool) (fun ((v_80, v_81) : Int × Bool) => (mk 98 [(0, (rf 3 0)), (1, (dt (.int .u8 101))), (2, (dt (.int .u64 9223372036854775808))), (7, (dt (.int .u64 n_71))), (8, (di ((r_1.At + 1) + 1))), (26, (dt (.int .u8 v_80)))] [(0, gB0), (1, gB1), (2, gB2), (3, (.var [(.dat (.sl 1 (r_1.B.map elB))), (.dat (I v_72)), (.dat (B (v_81)))])), (8, (.var [(.dat (I 0)), (.dat (I 0)), (.dat (.str ([] : List UInt8))), (.dat nilS), (.dat nilS)]))])) (fun ((v_80, v_81) : Int × Bool) => g__ref02_Reader_Value_s_j18 r_1 v_72 n_71 v_80 v_81 = some y1) (fun v h => ?_) ?_
  obtain ⟨v_80, v_81⟩ := v
  refine TL_turn [] [0, 1, 2, 7, 8, 26] [] (mk 98 [(0, (rf 3 0)), (1, (dt (.int .u8 101))), (2, (dt (.int .u64 9223372036854775808))), (7, (dt (.int .u64 n_71))), (8, (di ((r_1.At + 1) + 1))), (26, (dt (.int .u8 v_80)))] [(0, gB0), (1, gB1), (2, gB2), (3, (.var [(.dat (.sl 1 (r_1.B.map elB))), (.dat (I v_72)), (.dat (B (v_81)))])), (8, (.var [(.dat (I 0)), (.dat (I 0)), (.dat (.str ([] : List UInt8))), (.dat nilS), (.dat nilS)]))]) (by kernel_rfl) ?_
  refine TL_part 1 [] (mk 98 [(0, (rf 3 0)), (1, (dt (.int .u8 101))), (2, (dt (.int .u64 9223372036854775808))), (7, (dt (.int .u64 n_71))), (8, (di ((r_1.At + 1) + 1))), (9, (dt (.int .u8 v_80))), (26, (dt (.int .u8 v_80)))] [(0, gB0), (1, gB1), (2, gB2), (3, (.var [(.dat (.sl 1 (r_1.B.map elB))), (.dat (I v_72)), (.dat (B (v_81)))])), (8, (.var [(.dat (I 0)), (.dat (I 0)), (.dat (.str ([] : List UInt8))), (.dat nilS), (.dat nilS)]))]) _ (by kernel_rfl) (z2 zt) rfl ?_
  refine TL_nilQ ?_
  refine T_turn [] [0, 1, 2, 7, 8, 9] [] (mk 98 [(0, (rf 3 0)), (1, (dt (.int .u8 101))), (2, (dt (.int .u64 9223372036854775808))), (7, (dt (.int .u64 n_71))), (8, (di ((r_1.At + 1) + 1))), (9, (dt (.int .u8 v_80)))] [(0, gB0), (1, gB1), (2, gB2), (3, (.var [(.dat (.sl 1 (r_1.B.map elB))), (.dat (I v_72)), (.dat (B (v_81)))])), (8, (.var [(.dat (I 0)), (.dat (I 0)), (.dat (.str ([] : List UInt8))), (.dat nilS), (.dat nilS)]))]) (by kernel_rfl) ?_
  refine T_seq ?_
  refine T_seqJ (α := Bool) (fun (v_82 : Bool) => (mk 98 [(0, (rf 3 0)), (1, (dt (.int .u8 101))), (2, (dt (.int .u64 9223372036854775808))), (7, (dt (.int .u64 n_71))), (8, (di ((r_1.At + 1) + 1))), (9, (dt (.int .u8 v_80))), (59, (db (v_82)))] [(0, gB0), (1, gB1), (2, gB2), (3, (.var [(.dat (.sl 1 (r_1.B.map elB))), (.dat (I v_72)), (.dat (B (v_81)))])), (8, (.var [(.dat (I 0)), (.dat (I 0)), (.dat (.str ([] : List UInt8))), (.dat nilS), (.dat nilS)]))])) (fun (v_82 : Bool) => g__ref02_Reader_Value_s_j19 r_1 v_72 n_71 v_80 v_81 v_82 = some y1) (fun v_82 h => ?_) ?_
  refine T_cond (v_82) (by kernel_rfl) (fun b83 => ?_) (fun b83 => ?_)
  replace h := ite_t b83 h
  refine T_reg [] [] [] (mk 98 [] [(0, gB0), (1, gB1), (2, gB2), (3, (.var [(.dat (.sl 1 (r_1.B.map elB))), (.dat (I v_72)), (.dat (B true))])), (8, (.var [(.dat (I 0)), (.dat (I 0)), (.dat (.str ([] : List UInt8))), (.dat nilS), (.dat nilS)]))]) _ (by kernel_rfl) (z8 zt) ?_
  refine T_reg [] [6] [] (mk 98 [(6, (dt (.int .u64 0)))] [(0, gB0), (1, gB1), (2, gB2), (3, (.var [(.dat (.sl 1 (r_1.B.map elB))), (.dat (I v_72)), (.dat (B true))])), (8, (.var [(.dat (I 0)), (.dat (I 0)), (.dat (.str ([] : List UInt8))), (.dat nilS), (.dat nilS)]))]) _ (by kernel_rfl) (z2 zt) ?_
  refine T_ret ?_
  replace h := up_inv h hy1
  refine ⟨[(dt (.int .u64 0))], by kernel_rfl, ?_⟩
  refine TL_nilQ ?_
  exact Exists.intro (0, v_72, true) (And.intro h (arr [] [0, 4, 41] [] [0, 1, 2, 3, 8] (by kernel_rfl)))
  replace h := ite_f b83 h
  refine T_skip ?_
  refine T_reg [] [0, 1, 2, 7, 8] [] (mk 98 [(0, (rf 3 0)), (1, (dt (.int .u8 101))), (2, (dt (.int .u64 9223372036854775808))), (7, (dt (.int .u64 (IntKind.u64.wrap ((IntKind.u64.wrap (10 * n_71)) + (IntKind.u64.wrap (IntKind.u8.wrap (v_80 - 48)))))))), (8, (di ((r_1.At + 1) + 1)))] [(0, gB0), (1, gB1), (2, gB2), (3, (.var [(.dat (.sl 1 (r_1.B.map elB))), (.dat (I v_72)), (.dat (B (v_81)))])), (8, (.var [(.dat (I 0)), (.dat (I 0)), (.dat (.str ([] : List UInt8))), (.dat nilS), (.dat nilS)]))]) _ (by kernel_rfl) (z8 (z6 zt)) ?_
  obtain ⟨c84, h⟩ := ckI_inv h
  exact T_regJ (hl 5 [(4, (zd (I (v_72 + 1))))]) [] [0, 1, 2, 7, 8] [] [0, 1, 2, 3, 8] _ _ (by kernel_rfl) (z8 (z1 (zc c84 (z6 zt)))) (fun s hs => Exists.intro ((IntKind.u64.wrap ((IntKind.u64.wrap (10 * n_71)) + (IntKind.u64.wrap (IntKind.u8.wrap (v_80 - 48))))), (v_72 + 1), (v_81)) (And.intro h hs))
  rcases Bool.eq_false_or_eq_true (decide (v_80 < 48)) with b85 | b85
  replace h := ite_t b85 h
  exact T_regJ [zn, zn, zn, zg, zg, (zd (B true)), zn, zg, zg, zg, zg, zg, zg, zg, (zd (B true)), zn, zg, zg, zg, zg, zg, zg, zg, zn, zn, zn, zn, zn, zn, zn, zn, zg, (zd (B true))] [] [0, 1, 2, 7, 8, 9, 59] [] [0, 1, 2, 3, 8] _ _ (by kernel_rfl) (z6 (zc (gd_tf b85) (zc (gd_tf b85) (z1 (zc b85 (z2 (zc (gd_tf (rfl : true = true)) (zc (gd_tf (rfl : true = true)) (zc (gd_tf (rfl : true = true)) (zc (gd_tf (rfl : true = true)) (zc (gd_tf (rfl : true = true)) (zc (gd_tf (rfl : true = true)) (zc (gd_tf (rfl : true = true)) (z1 (zc (rfl : true = true) (z2 (zc (gd_tf (rfl : true = true)) (zc (gd_tf (rfl : true = true)) (zc (gd_tf (rfl : true = true)) (zc (gd_tf (rfl : true = true)) (zc (gd_tf (rfl : true = true)) (zc (gd_tf (rfl : true = true)) (zc (gd_tf (rfl : true = true)) (z8 (zc (gd_tf (rfl : true = true)) (z1 (zc (rfl : true = true) zt))))))))))))))))))))))))))) (fun s hs => Exists.intro true (And.intro h hs))
  replace h := ite_f b85 h
  rcases Bool.eq_false_or_eq_true (decide (v_80 > 57)) with b86 | b86
  replace h := ite_t b86 h
  exact T_regJ [zn, zn, zn, zn, zn, (zd (B false)), zn, zg, zg, zg, zg, zg, zg, zg, (zd (B true)), zn, zg, zg, zg, zg, zg, zg, zg, zn, zn, zn, zn, zn, zn, zn, zn, zg, (zd (B true))] [] [0, 1, 2, 7, 8, 9, 59] [] [0, 1, 2, 3, 8] _ _ (by kernel_rfl) (z6 (zc (gd_ff b85) (z1 (zc (gd_ff b85) (z2 (zc b85 (z2 (zc (gd_tf b86) (zc (gd_tf b86) (zc (gd_tf b86) (zc (gd_tf b86) (zc (gd_tf b86) (zc (gd_tf b86) (zc (gd_tf b86) (z1 (zc b86 (z2 (zc (gd_tf (rfl : true = true)) (zc (gd_tf (rfl : true = true)) (zc (gd_tf (rfl : true = true)) (zc (gd_tf (rfl : true = true)) (zc (gd_tf (rfl : true = true)) (zc (gd_tf (rfl : true = true)) (zc (gd_tf (rfl : true = true)) (z8 (zc (gd_tf (rfl : true = true)) (z1 (zc (rfl : true = true) zt)))))))))))))))))))))))))))) (fun s hs => Exists.intro true (And.intro h hs))
  replace h := ite_f b86 h
  obtain ⟨c87, h⟩ := ckI_inv h
  rcases Bool.eq_false_or_eq_true (decide ((v_72 - ((r_1.At + 1) + 1)) > 18)) with b88 | b88
  replace h := ite_t b88 h
  exact T_regJ (hl 33 [(5, (zd (B false))), (12, (zd (I (v_72 - ((r_1.At + 1) + 1))))), (14, (zd (B false))), (16, zg), (17, zg), (18, zg), (19, zg), (20, zg), (21, zg), (22, zg), (31, zg), (32, (zd (B true)))]) [] [0, 1, 2, 7, 8, 9, 59] [] [0, 1, 2, 3, 8] _ _ (by kernel_rfl) (z6 (zc (gd_ff b85) (z1 (zc (gd_ff b85) (z2 (zc b85 (z2 (zc (gd_ff b86) (z1 (zc (gd_ff b86) (z1 (zc (gd_ff b86) (z1 (zc (gd_ff b86) (z1 (zc (gd_ff b86) (z1 (zc (gd_ff b86) (zc c87 (zc (gd_ff b86) (z2 (zc b86 (z2 (zc (gd_tf b88) (zc (gd_tf b88) (zc (gd_tf b88) (zc (gd_tf b88) (zc (gd_tf b88) (zc (gd_tf b88) (zc (gd_tf b88) (z8 (zc (gd_tf b88) (z1 (zc b88 zt)))))))))))))))))))))))))))))))))) (fun s hs => Exists.intro true (And.intro h hs))
  replace h := ite_f b88 h
  rcases Bool.eq_false_or_eq_true (decide (v_72 > ((r_1.At + 1) + 1))) with b89 | b89
  replace h := ite_t b89 h
  obtain ⟨x_90, e91, e92, e93, h⟩ := gt_inv elB h
  exact T_regJ (hl 33 [(5, (zd (B false))), (12, (zd (I (v_72 - ((r_1.At + 1) + 1))))), (14, (zd (B false))), (28, (zd (.int .u8 ((x_90.toNat : Nat) : Int)))), (31, (zd (B true))), (32, (zd (B false)))]) [] [0, 1, 2, 7, 8, 9, 59] [] [0, 1, 2, 3, 8] _ _ (by kernel_rfl) (z6 (zc (gd_ff b85) (z1 (zc (gd_ff b85) (z2 (zc b85 (z2 (zc (gd_ff b86) (z1 (zc (gd_ff b86) (z1 (zc (gd_ff b86) (z1 (zc (gd_ff b86) (z1 (zc (gd_ff b86) (z1 (zc (gd_ff b86) (zc c87 (zc (gd_ff b86) (z2 (zc b86 (z2 (zc (gd_ff b88) (z1 (zc (gd_ff b88) (z1 (zc (gd_ff b88) (z1 (zc (gd_ff b88) (z1 (zc (gd_ff b88) (z1 (zc (gd_ff b88) (z1 (zc (gd_ff b88) (z1 (zc (gd_tt b89) (z1 (zc (gd_tt b89) (z1 (zc (gd_tt b89) (z1 (zc (gd_tt b89) (z1 (zc (gd_tt b89) (z1 (zc (gd_tt b89) (zc e91 (zc (gd_tt b89) (z1 (zc (gd_tt b89) (z1 (zc (gd_ff b88) (zc b89 (z1 (zc b88 zt))))))))))))))))))))))))))))))))))))))))))))))))))))))))) (fun s hs => Exists.intro (((x_90.toNat : Nat) : Int) == 48) (And.intro h hs))
  replace h := ite_f b89 h
  exact T_regJ [zn, zn, zn, zn, zn, (zd (B false)), zn, zn, zn, zn, zn, zn, (zd (I (v_72 - ((r_1.At + 1) + 1)))), zn, (zd (B false)), zn, zn, zn, zn, zn, zn, zn, zn, zg, zg, zg, zg, zg, zg, zg, zg, (zd (B false)), (zd (B false))] [] [0, 1, 2, 7, 8, 9, 59] [] [0, 1, 2, 3, 8] _ _ (by kernel_rfl) (z6 (zc (gd_ff b85) (z1 (zc (gd_ff b85) (z2 (zc b85 (z2 (zc (gd_ff b86) (z1 (zc (gd_ff b86) (z1 (zc (gd_ff b86) (z1 (zc (gd_ff b86) (z1 (zc (gd_ff b86) (z1 (zc (gd_ff b86) (zc c87 (zc (gd_ff b86) (z2 (zc b86 (z2 (zc (gd_ff b88) (z1 (zc (gd_ff b88) (z1 (zc (gd_ff b88) (z1 (zc (gd_ff b88) (z1 (zc (gd_ff b88) (z1 (zc (gd_ff b88) (z1 (zc (gd_ff b88) (z1 (zc (gd_ft b89) (zc (gd_ft b89) (zc (gd_ft b89) (zc (gd_ft b89) (zc (gd_ft b89) (zc (gd_ft b89) (zc (gd_ft b89) (zc (gd_ft b89) (zc (gd_ff b88) (zc b89 (z1 (zc b88 zt))))))))))))))))))))))))))))))))))))))))))))))))) (fun s hs => Exists.intro false (And.intro h hs))
  refine TL_inlineP 224 51 [] Tryd.f51 _ rfl rfl (by kernel_rfl) Tryd.func51 rfl rfl (by decide) ?_
  refine T_turn [] [0] [] (mk 26 [(0, (rf 3 0))] [(0, gB0), (1, gB1), (2, gB2), (3, (.var [(.dat (.sl 1 (r_1.B.map elB))), (.dat (I v_72)), (.dat (B (v_78)))])), (8, (.var [(.dat (I 0)), (.dat (I 0)), (.dat (.str ([] : List UInt8))), (.dat nilS), (.dat nilS)]))]) (by kernel_rfl) ?_
  refine T_reg [] [0] [] (mk 26 [(0, (rf 3 0))] [(0, gB0), (1, gB1), (2, gB2), (3, (.var [(.dat (.sl 1 (r_1.B.map elB))), (.dat (I v_72)), (.dat (B (v_78)))])), (8, (.var [(.dat (I 0)), (.dat (I 0)), (.dat (.str ([] : List UInt8))), (.dat nilS), (.dat nilS)]))]) _ (by kernel_rfl) (z2 zt) ?_
  refine T_seq ?_
  refine T_regD 10 (hl 9 [(8, (zd (I ((r_1.B.length : Nat) : Int))))]) [0, 12] [] (mk 26 [(0, (rf 3 0)), (12, (db (decide (v_72 < ((r_1.B.length : Nat) : Int)))))] [(0, gB0), (1, gB1), (2, gB2), (3, (.var [(.dat (.sl 1 (r_1.B.map elB))), (.dat (I v_72)), (.dat (B (v_78)))])), (8, (.var [(.dat (I 0)), (.dat (I 0)), (.dat (.str ([] : List UInt8))), (.dat nilS), (.dat nilS)]))]) _ (by kernel_rfl) (by kernel_rfl) (by kernel_rfl) (zc (z8 (z8 (z1 (zc (len_s elB r_1.B) (z2 zt))))) zt) ?_
  refine T_cond (decide (v_72 < ((r_1.B.length : Nat) : Int))) (by kernel_rfl) (fun b94 => ?_) (fun b94 => ?_)
  replace h := ite_t b94 h
  obtain ⟨x_95, e96, e97, e98, h⟩ := gt_inv elB h
  refine T_regD 11 (hl 9 [(8, (zd (.int .u8 ((x_95.toNat : Nat) : Int))))]) [2] [] (mk 26 [(2, (dt (.int .u8 ((x_95.toNat : Nat) : Int))))] [(0, gB0), (1, gB1), (2, gB2), (3, (.var [(.dat (.sl 1 (r_1.B.map elB))), (.dat (I v_72)), (.dat (B (v_78)))])), (8, (.var [(.dat (I 0)), (.dat (I 0)), (.dat (.str ([] : List UInt8))), (.dat nilS), (.dat nilS)]))]) _ (by kernel_rfl) (by kernel_rfl) (by kernel_rfl) (zc (z8 (z8 (z1 (zc e96 (z4 zt))))) zt) ?_
  refine T_ret ?_
  refine ⟨[(dt (.int .u8 ((x_95.toNat : Nat) : Int)))], by kernel_rfl, ?_⟩
  refine TL_nilQ ?_
  exact Exists.intro (((x_95.toNat : Nat) : Int), (v_78)) (And.intro h (arr [] [0, 1, 2, 7, 8, 26] [] [0, 1, 2, 3, 8] (by kernel_rfl)))
  replace h := ite_f b94 h
  refine T_skip ?_
  refine T_reg [] [] [] (mk 26 [] [(0, gB0), (1, gB1), (2, gB2), (3, (.var [(.dat (.sl 1 (r_1.B.map elB))), (.dat (I v_72)), (.dat (B true))])), (8, (.var [(.dat (I 0)), (.dat (I 0)), (.dat (.str ([] : List UInt8))), (.dat nilS), (.dat nilS)]))]) _ (by kernel_rfl) (z8 zt) ?_
  refine T_reg [] [2] [] (mk 26 [(2, (dt (.int .u8 0)))] [(0, gB0), (1, gB1), (2, gB2), (3, (.var [(.dat (.sl 1 (r_1.B.map elB))), (.dat (I v_72)), (.dat (B true))])), (8, (.var [(.dat (I 0)), (.dat (I 0)), (.dat (.str ([] : List UInt8))), (.dat nilS), (.dat nilS)]))]) _ (by kernel_rfl) (z2 zt) ?_
  refine T_ret ?_
  refine ⟨[(dt (.int .u8 0))], by kernel_rfl, ?_⟩
  refine TL_nilQ ?_
  exact Exists.intro (0, true) (And.intro h (arr [] [0, 1, 2, 7, 8, 26] [] [0, 1, 2, 3, 8] (by kernel_rfl)))
  replace h := ite_f b79 h
  refine T_exit ?_
  replace h := up_inv h hy1
  exact Exists.intro (n_71, v_72, (v_78)) (And.intro h (arr [] [0, 2, 7, 8] [] [0, 1, 2, 3, 8] (by kernel_rfl)))
  rcases Bool.eq_false_or_eq_true (!(v_73)) with b99 | b99
  replace h := ite_t b99 h
  refine T_parts ?_
  refine TL_part 7 [] (mk 98 [(0, (rf 3 0)), (1, (dt (.int .u8 101))), (2, (dt (.int .u64 9223372036854775808))), (7, (dt (.int .u64 n_71))), (8, (di ((r_1.At + 1) + 1))), (14, (rf 3 0)), (15, (rf 3 0)), (16, (rf 3 2)), (17, (db (v_73))), (18, (db (!(v_73)))), (19, (db (!(v_73)))), (20, (rf 3 0))] [(0, gB0), (1, gB1), (2, gB2), (3, (.var [(.dat (.sl 1 (r_1.B.map elB))), (.dat (I v_72)), (.dat (B (v_73)))])), (8, (.var [(.dat (I 0)), (.dat (I 0)), (.dat (.str ([] : List UInt8))), (.dat nilS), (.dat nilS)]))]) _ (by kernel_rfl) (z8 (z4 (zc (gd_tt b99) (z1 zt)))) rfl ?_
  refine TL_guard (p := ((!(v_73)) == true) = true) (by kernel_rfl) (gd_tt b99) ?_
  refine TL_consJ (α := Int × Bool) (fun ((v_100, v_101) : Int × Bool) => (mk 98 [(0, (rf 3 0)), (1, (dt (.int .u8 101))), (2, (dt (.int .u64 9223372036854775808))), (7, (dt (.int .u64 n_71))), (8, (di ((r_1.At + 1) + 1))), (19, (db (!(v_73)))), (21, (dt (.int .u8 v_100)))] [(0, gB0), (1, gB1), (2, gB2), (3, (.var [(.dat (.sl 1 (r_1.B.map elB))), (.dat (I v_72)), (.dat (B (v_101)))])), (8, (.var [(.dat (I 0)), (.dat (I 0)), (.dat (.str ([] : List UInt8))), (.dat nilS), (.dat nilS)]))])) (fun ((v_100, v_101) : Int × Bool) => g__ref02_Reader_Value_s_j20 v_72 r_1 n_71 v_73 v_100 v_101 = some y1) (fun v h => ?_) ?_
  obtain ⟨v_100, v_101⟩ := v
  refine TL_turn [] [0, 1, 2, 7, 8, 19, 21] [] (mk 98 [(0, (rf 3 0)), (1, (dt (.int .u8 101))), (2, (dt (.int .u64 9223372036854775808))), (7, (dt (.int .u64 n_71))), (8, (di ((r_1.At + 1) + 1))), (19, (db (!(v_73)))), (21, (dt (.int .u8 v_100)))] [(0, gB0), (1, gB1), (2, gB2), (3, (.var [(.dat (.sl 1 (r_1.B.map elB))), (.dat (I v_72)), (.dat (B (v_101)))])), (8, (.var [(.dat (I 0)), (.dat (I 0)), (.dat (.str ([] : List UInt8))), (.dat nilS), (.dat nilS)]))]) (by kernel_rfl) ?_
  refine TL_part 3 [zn, zn, (zd (B true))] (mk 98 [(0, (rf 3 0)), (1, (dt (.int .u8 101))), (2, (dt (.int .u64 9223372036854775808))), (7, (dt (.int .u64 n_71))), (8, (di ((r_1.At + 1) + 1))), (19, (db (!(v_73)))), (21, (dt (.int .u8 v_100))), (22, (dt (.int .u8 101))), (23, (db (v_100 != 101))), (24, (db (v_100 != 101)))] [(0, gB0), (1, gB1), (2, gB2), (3, (.var [(.dat (.sl 1 (r_1.B.map elB))), (.dat (I v_72)), (.dat (B (v_101)))])), (8, (.var [(.dat (I 0)), (.dat (I 0)), (.dat (.str ([] : List UInt8))), (.dat nilS), (.dat nilS)]))]) _ (by kernel_rfl) (zc (gd_tt b99) (z1 (zc (gd_tt b99) (z2 (zc b99 zt))))) rfl ?_
  refine TL_nilQ ?_
  exact Exists.intro ((v_100 != 101), (v_101)) (And.intro h (arr [] [0, 1, 2, 7, 8, 24] [] [0, 1, 2, 3, 8] (by kernel_rfl)))
  refine TL_inlineP 224 51 [] Tryd.f51 _ rfl rfl (by kernel_rfl) Tryd.func51 rfl rfl (by decide) ?_
  refine T_turn [] [0] [] (mk 26 [(0, (rf 3 0))] [(0, gB0), (1, gB1), (2, gB2), (3, (.var [(.dat (.sl 1 (r_1.B.map elB))), (.dat (I v_72)), (.dat (B (v_73)))])), (8, (.var [(.dat (I 0)), (.dat (I 0)), (.dat (.str ([] : List UInt8))), (.dat nilS), (.dat nilS)]))]) (by kernel_rfl) ?_
  refine T_reg [] [0] [] (mk 26 [(0, (rf 3 0))] [(0, gB0), (1, gB1), (2, gB2), (3, (.var [(.dat (.sl 1 (r_1.B.map elB))), (.dat (I v_72)), (.dat (B (v_73)))])), (8, (.var [(.dat (I 0)), (.dat (I 0)), (.dat (.str ([] : List UInt8))), (.dat nilS), (.dat nilS)]))]) _ (by kernel_rfl) (z2 zt) ?_
  refine T_seq ?_
  refine T_regD 10 (hl 9 [(8, (zd (I ((r_1.B.length : Nat) : Int))))]) [0, 12] [] (mk 26 [(0, (rf 3 0)), (12, (db (decide (v_72 < ((r_1.B.length : Nat) : Int)))))] [(0, gB0), (1, gB1), (2, gB2), (3, (.var [(.dat (.sl 1 (r_1.B.map elB))), (.dat (I v_72)), (.dat (B (v_73)))])), (8, (.var [(.dat (I 0)), (.dat (I 0)), (.dat (.str ([] : List UInt8))), (.dat nilS), (.dat nilS)]))]) _ (by kernel_rfl) (by kernel_rfl) (by kernel_rfl) (zc (z8 (z8 (z1 (zc (len_s elB r_1.B) (z2 zt))))) zt) ?_
  refine T_cond (decide (v_72 < ((r_1.B.length : Nat) : Int))) (by kernel_rfl) (fun b102 => ?_) (fun b102 => ?_)
  replace h := ite_t b102 h
  obtain ⟨x_103, e104, e105, e106, h⟩ := gt_inv elB h
  refine T_regD 11 (hl 9 [(8, (zd (.int .u8 ((x_103.toNat : Nat) : Int))))]) [2] [] (mk 26 [(2, (dt (.int .u8 ((x_103.toNat : Nat) : Int))))] [(0, gB0), (1, gB1), (2, gB2), (3, (.var [(.dat (.sl 1 (r_1.B.map elB))), (.dat (I v_72)), (.dat (B (v_73)))])), (8, (.var [(.dat (I 0)), (.dat (I 0)), (.dat (.str ([] : List UInt8))), (.dat nilS), (.dat nilS)]))]) _ (by kernel_rfl) (by kernel_rfl) (by kernel_rfl) (zc (z8 (z8 (z1 (zc e104 (z4 zt))))) zt) ?_
  refine T_ret ?_
  refine ⟨[(dt (.int .u8 ((x_103.toNat : Nat) : Int)))], by kernel_rfl, ?_⟩
  refine TL_nilQ ?_
  exact Exists.intro (((x_103.toNat : Nat) : Int), (v_73)) (And.intro h (arr [] [0, 1, 2, 7, 8, 19, 21] [] [0, 1, 2, 3, 8] (by kernel_rfl)))
  replace h := ite_f b102 h
  refine T_skip ?_
  refine T_reg [] [] [] (mk 26 [] [(0, gB0), (1, gB1), (2, gB2), (3, (.var [(.dat (.sl 1 (r_1.B.map elB))), (.dat (I v_72)), (.dat (B true))])), (8, (.var [(.dat (I 0)), (.dat (I 0)), (.dat (.str ([] : List UInt8))), (.dat nilS), (.dat nilS)]))]) _ (by kernel_rfl) (z8 zt) ?_
  refine T_reg [] [2] [] (mk 26 [(2, (dt (.int .u8 0)))] [(0, gB0), (1, gB1), (2, gB2), (3, (.var [(.dat (.sl 1 (r_1.B.map elB))), (.dat (I v_72)), (.dat (B true))])), (8, (.var [(.dat (I 0)), (.dat (I 0)), (.dat (.str ([] : List UInt8))), (.dat nilS), (.dat nilS)]))]) _ (by kernel_rfl) (z2 zt) ?_
  refine T_ret ?_
  refine ⟨[(dt (.int .u8 0))], by kernel_rfl, ?_⟩
  refine TL_nilQ ?_
  exact Exists.intro (0, true) (And.intro h (arr [] [0, 1, 2, 7, 8, 19, 21] [] [0, 1, 2, 3, 8] (by kernel_rfl)))
  replace h := ite_f b99 h
  exact T_regJ [zn, zn, zn, zn, zn, zn, zg, zg, zg, zg, (zd (B false))] [] [0, 1, 2, 7, 8, 24] [] [0, 1, 2, 3, 8] _ _ (by kernel_rfl) (z8 (z4 (zc (gd_ft b99) (zc (gd_ft b99) (zc (gd_ft b99) (zc (gd_ft b99) (z1 (zc b99 zt)))))))) (fun s hs => Exists.intro (false, (v_73)) (And.intro h hs))
  refine TL_inlineP 126 51 [] Tryd.f51 _ rfl rfl (by kernel_rfl) Tryd.func51 rfl rfl (by decide) ?_
  refine T_turn [] [0] [] (mk 26 [(0, (rf 3 0))] [(0, gB0), (1, gB1), (2, gB2), (3, (.var [(.dat (.sl 1 (r_1.B.map elB))), (.dat (I (r_1.At + 1))), (.dat (B (v_4)))])), (8, (.var [(.dat (I 0)), (.dat (I 0)), (.dat (.str ([] : List UInt8))), (.dat nilS), (.dat nilS)]))]) (by kernel_rfl) ?_
  refine T_reg [] [0] [] (mk 26 [(0, (rf 3 0))] [(0, gB0), (1, gB1), (2, gB2), (3, (.var [(.dat (.sl 1 (r_1.B.map elB))), (.dat (I (r_1.At + 1))), (.dat (B (v_4)))])), (8, (.var [(.dat (I 0)), (.dat (I 0)), (.dat (.str ([] : List UInt8))), (.dat nilS), (.dat nilS)]))]) _ (by kernel_rfl) (z2 zt) ?_
  refine T_seq ?_
  refine T_regD 10 (hl 9 [(8, (zd (I ((r_1.B.length : Nat) : Int))))]) [0, 12] [] (mk 26 [(0, (rf 3 0)), (12, (db (decide ((r_1.At + 1) < ((r_1.B.length : Nat) : Int)))))] [(0, gB0), (1, gB1), (2, gB2), (3, (.var [(.dat (.sl 1 (r_1.B.map elB))), (.dat (I (r_1.At + 1))), (.dat (B (v_4)))])), (8, (.var [(.dat (I 0)), (.dat (I 0)), (.dat (.str ([] : List UInt8))), (.dat nilS), (.dat nilS)]))]) _ (by kernel_rfl) (by kernel_rfl) (by kernel_rfl) (zc (z8 (z8 (z1 (zc (len_s elB r_1.B) (z2 zt))))) zt) ?_
  refine T_cond (decide ((r_1.At + 1) < ((r_1.B.length : Nat) : Int))) (by kernel_rfl) (fun b107 => ?_) (fun b107 => ?_)
  replace h := ite_t b107 h
  obtain ⟨x_108, e109, e110, e111, h⟩ := gt_inv elB h
  refine T_regD 11 (hl 9 [(8, (zd (.int .u8 ((x_108.toNat : Nat) : Int))))]) [2] [] (mk 26 [(2, (dt (.int .u8 ((x_108.toNat : Nat) : Int))))] [(0, gB0), (1, gB1), (2, gB2), (3, (.var [(.dat (.sl 1 (r_1.B.map elB))), (.dat (I (r_1.At + 1))), (.dat (B (v_4)))])), (8, (.var [(.dat (I 0)), (.dat (I 0)), (.dat (.str ([] : List UInt8))), (.dat nilS), (.dat nilS)]))]) _ (by kernel_rfl) (by kernel_rfl) (by kernel_rfl) (zc (z8 (z8 (z1 (zc e109 (z4 zt))))) zt) ?_
  refine T_ret ?_
  refine ⟨[(dt (.int .u8 ((x_108.toNat : Nat) : Int)))], by kernel_rfl, ?_⟩
  refine TL_nilQ ?_
  exact Exists.intro (((x_108.toNat : Nat) : Int), (v_4)) (And.intro h (arr [] [0, 4, 27] [] [0, 1, 2, 3, 8] (by kernel_rfl)))
  replace h := ite_f b107 h
  refine T_skip ?_
  refine T_reg [] [] [] (mk 26 [] [(0, gB0), (1, gB1), (2, gB2), (3, (.var [(.dat (.sl 1 (r_1.B.map elB))), (.dat (I (r_1.At + 1))), (.dat (B true))])), (8, (.var [(.dat (I 0)), (.dat (I 0)), (.dat (.str ([] : List UInt8))), (.dat nilS), (.dat nilS)]))]) _ (by kernel_rfl) (z8 zt) ?_
  refine T_reg [] [2] [] (mk 26 [(2, (dt (.int .u8 0)))] [(0, gB0), (1, gB1), (2, gB2), (3, (.var [(.dat (.sl 1 (r_1.B.map elB))), (.dat (I (r_1.At + 1))), (.dat (B true))])), (8, (.var [(.dat (I 0)), (.dat (I 0)), (.dat (.str ([] : List UInt8))), (.dat nilS), (.dat nilS)]))]) _ (by kernel_rfl) (z2 zt) ?_
  refine T_ret ?_
  refine ⟨[(dt (.int .u8 0))], by kernel_rfl, ?_⟩
  refine TL_nilQ ?_
  exact Exists.intro (0, true) (And.intro h (arr [] [0, 4, 27] [] [0, 1, 2, 3, 8] (by kernel_rfl)))
  replace h := ite_f b6 h
  refine T_seqJ (α := Bool) (fun (v_112 : Bool) => (mk 122 [(0, (rf 3 0)), (1, (di depth_2)), (4, (rf 8 0)), (5, (dt (.int .u8 v_3))), (54, (db (v_112)))] [(0, gB0), (1, gB1), (2, gB2), (3, (.var [(.dat (.sl 1 (r_1.B.map elB))), (.dat (I r_1.At)), (.dat (B (v_4)))])), (8, (.var [(.dat (I 0)), (.dat (I 0)), (.dat (.str ([] : List UInt8))), (.dat nilS), (.dat nilS)]))])) (fun (v_112 : Bool) => g__ref02_Reader_Value_s_j21 r_1 v_4 v_3 depth_2 rc v_112 = some r) (fun v_112 h => ?_) ?_
  refine T_cond (v_112) (by kernel_rfl) (fun b113 => ?_) (fun b113 => ?_)
  replace h := ite_t b113 h
  refine T_seq (T_parts ?_)
  refine TL_part 1 [] (mk 122 [(0, (rf 3 0)), (1, (di depth_2)), (4, (rf 8 0)), (5, (dt (.int .u8 v_3))), (54, (db (v_112))), (61, (rf 3 0))] [(0, gB0), (1, gB1), (2, gB2), (3, (.var [(.dat (.sl 1 (r_1.B.map elB))), (.dat (I r_1.At)), (.dat (B (v_4)))])), (8, (.var [(.dat (I 0)), (.dat (I 0)), (.dat (.str ([] : List UInt8))), (.dat nilS), (.dat nilS)]))]) _ (by kernel_rfl) (z2 zt) rfl ?_
  obtain ⟨y115, e116, hk117, hz118⟩ := bdP_inv h
  refine TL_ct 53 [0, 1, 2, 3] 100004 _ _ [] (g__ref02_Reader_text_ret e116) rfl rfl (by kernel_rfl) (by kernel_rfl) (by kernel_rfl) (by kernel_rfl) (fun l bx' hR => ?_) (fun d bx' hR => ?_)
  obtain ⟨r_114, rfl, rfl, rfl⟩ := CoR_ret hR
  replace h := hk117 _ rfl
  refine TL_turn [] [4, 62] [] (mk 122 [(4, (rf 8 0)), (62, (dt (.str r_114.1)))] [(8, (.var [(.dat (I 0)), (.dat (I 0)), (.dat (.str ([] : List UInt8))), (.dat nilS), (.dat nilS)])), (0, gB0), (1, gB1), (2, gB2), (3, (.var (qAssizeref02Reader r_114.2)))]) (by kernel_rfl) ?_
  refine TL_part 2 [] (mk 122 [(4, (rf 8 0)), (62, (dt (.str r_114.1))), (63, (.agg [(.dat (I 2)), (.dat (I 0)), (.dat (.str r_114.1)), (.dat nilS), (.dat nilS)]))] [(8, (.var [(.dat (I 2)), (.dat (I 0)), (.dat (.str r_114.1)), (.dat nilS), (.dat nilS)])), (0, gB0), (1, gB1), (2, gB2), (3, (.var (qAssizeref02Reader r_114.2)))]) _ (by kernel_rfl) (z4 zt) rfl ?_
  refine TL_nilQ ?_
  refine T_turn [] [4] [] (mk 122 [(4, (rf 8 0))] [(8, (.var [(.dat (I 2)), (.dat (I 0)), (.dat (.str r_114.1)), (.dat nilS), (.dat nilS)])), (0, gB0), (1, gB1), (2, gB2), (3, (.var (qAssizeref02Reader r_114.2)))]) (by kernel_rfl) ?_
  refine T_arr [.nilC 8 3 5, .nilC 8 4 1, .ice 8] [4] [8] [0, 1, 2, 3] (mk 122 [(4, (dt (.ptr [(I 2), (I 0), (.str r_114.1), (.sl 5 (([] : List Val).map encVal)), (.sl 1 (([] : List (List UInt8)).map elStr))])))] [(0, gB0), (1, gB1), (2, gB2), (3, (.var (qAssizeref02Reader r_114.2)))]) (by kernel_rfl) ?_
  refine T_ret ?_
  obtain rfl := some_inv h
  exact ⟨[(.agg [(.dat (I 2)), (.dat (I 0)), (.dat (.str r_114.1)), (.dat (.sl 5 (([] : List Val).map encVal))), (.dat (.sl 1 (([] : List (List UInt8)).map elStr)))])], by kernel_rfl, rfl⟩
  obtain ⟨rfl, rfl, hlk⟩ := CoR_pan hR
  replace h := hz118 rfl
  obtain rfl := some_inv h
  exact (show _ ∧ _ from ⟨rfl, ⟨_, rfl, lk3 ((after_lk (by kernel_rfl) rfl).trans (by rw [hlk 0 (by decide)]; kernel_rfl)) ((after_lk (by kernel_rfl) rfl).trans (by rw [hlk 1 (by decide)]; kernel_rfl)) ((after_lk (by kernel_rfl) rfl).trans (by rw [hlk 2 (by decide)]; kernel_rfl))⟩⟩)
  replace h := ite_f b113 h
  refine T_skip ?_
  obtain ⟨c119, h⟩ := ckI_inv h
  refine T_reg (hl 5 [(4, (zd (I (r_1.At + 1))))]) [0, 1, 4, 5] [] (mk 122 [(0, (rf 3 0)), (1, (di depth_2)), (4, (rf 8 0)), (5, (dt (.int .u8 v_3)))] [(0, gB0), (1, gB1), (2, gB2), (3, (.var [(.dat (.sl 1 (r_1.B.map elB))), (.dat (I (r_1.At + 1))), (.dat (B (v_4)))])), (8, (.var [(.dat (I 0)), (.dat (I 0)), (.dat (.str ([] : List UInt8))), (.dat nilS), (.dat nilS)]))]) _ (by kernel_rfl) (z8 (z1 (zc c119 (z6 zt)))) ?_
  refine T_reg [] [0, 1, 4, 5, 7] [] (mk 122 [(0, (rf 3 0)), (1, (di depth_2)), (4, (rf 8 0)), (5, (dt (.int .u8 v_3))), (7, (rf 11 0))] [(11, (.var [(.dat (I 3)), (.dat (I 0)), (.dat (.str ([] : List UInt8))), (.dat nilS), (.dat nilS)])), (0, gB0), (1, gB1), (2, gB2), (3, (.var [(.dat (.sl 1 (r_1.B.map elB))), (.dat (I (r_1.At + 1))), (.dat (B (v_4)))])), (8, (.var [(.dat (I 0)), (.dat (I 0)), (.dat (.str ([] : List UInt8))), (.dat nilS), (.dat nilS)]))]) _ (by kernel_rfl) (z6 zt) ?_
  refine T_seqJ (α := Int) (fun (v_120 : Int) => (mk 122 [(0, (rf 3 0)), (1, (di depth_2)), (4, (rf 8 0)), (5, (dt (.int .u8 v_3))), (7, (rf 11 0))] [(0, gB0), (1, gB1), (2, gB2), (3, (.var [(.dat (.sl 1 (r_1.B.map elB))), (.dat (I (r_1.At + 1))), (.dat (B (v_4)))])), (8, (.var [(.dat (I 0)), (.dat (I 0)), (.dat (.str ([] : List UInt8))), (.dat nilS), (.dat nilS)])), (11, (.var [(.dat (I v_120)), (.dat (I 0)), (.dat (.str ([] : List UInt8))), (.dat nilS), (.dat nilS)]))])) (fun (v_120 : Int) => g__ref02_Reader_Value_s_j22 v_3 depth_2 rc r_1 v_4 v_120 = some r) (fun v_120 h => ?_) ?_
  refine T_reg (hl 9 [(8, (zd (B false)))]) [0, 1, 4, 5, 7] [] (mk 122 [(0, (rf 3 0)), (1, (di depth_2)), (4, (rf 8 0)), (5, (dt (.int .u8 v_3))), (7, (rf 11 0))] [(0, gB0), (1, gB1), (2, gB2), (3, (.var [(.dat (.sl 1 (r_1.B.map elB))), (.dat (I (r_1.At + 1))), (.dat (B (depth_2 == 16)))])), (8, (.var [(.dat (I 0)), (.dat (I 0)), (.dat (.str ([] : List UInt8))), (.dat nilS), (.dat nilS)])), (11, (.var [(.dat (I v_120)), (.dat (I 0)), (.dat (.str ([] : List UInt8))), (.dat nilS), (.dat nilS)]))]) _ (by kernel_rfl) (z8 (z4 (zc (gd_ff b5) (z1 (zc (gd_ff b5) (z2 (zc b5 (z6 zt)))))))) ?_
  refine T_seqJ (α := (List UInt8) × Int × Bool × (List Val) × (List (List UInt8))) (fun ((v_121, v_122, v_123, l_124, l_125) : (List UInt8) × Int × Bool × (List Val) × (List (List UInt8))) => (mk 122 [(0, (rf 3 0)), (4, (rf 8 0)), (7, (rf 11 0))] [(0, gB0), (1, gB1), (2, gB2), (3, (.var [(.dat (.sl 1 (v_121.map elB))), (.dat (I v_122)), (.dat (B (v_123)))])), (8, (.var [(.dat (I 0)), (.dat (I 0)), (.dat (.str ([] : List UInt8))), (.dat nilS), (.dat nilS)])), (11, (.var [(.dat (I v_120)), (.dat (I 0)), (.dat (.str ([] : List UInt8))), (.own 116), (.own 107)])), (107, (.row 9 1 (l_125.map elStr))), (116, (.row 25 5 (l_124.map encVal)))])) (fun ((v_121, v_122, v_123, l_124, l_125) : (List UInt8) × Int × Bool × (List Val) × (List (List UInt8))) => g__ref02_Reader_Value_s_j23 v_120 v_121 v_122 v_123 l_124 l_125 = some r) (fun v h => ?_) ?_
  obtain ⟨v_121, v_122, v_123, l_124, l_125⟩ := v
  obtain ⟨c126, h⟩ := ckI_inv h
  refine T_reg (hl 5 [(4, (zd (I (v_122 + 1))))]) [4, 7] [] (mk 122 [(4, (rf 8 0)), (7, (rf 11 0))] [(0, gB0), (1, gB1), (2, gB2), (3, (.var [(.dat (.sl 1 (v_121.map elB))), (.dat (I (v_122 + 1))), (.dat (B (v_123)))])), (8, (.var [(.dat (I 0)), (.dat (I 0)), (.dat (.str ([] : List UInt8))), (.dat nilS), (.dat nilS)])), (11, (.var [(.dat (I v_120)), (.dat (I 0)), (.dat (.str ([] : List UInt8))), (.own 116), (.own 107)])), (107, (.row 9 1 (l_125.map elStr))), (116, (.row 25 5 (l_124.map encVal)))]) _ (by kernel_rfl) (z8 (z1 (zc c126 (z6 zt)))) ?_
  refine T_reg [] [4] [11] (mk 122 [(4, (rf 8 0))] [(0, gB0), (1, gB1), (2, gB2), (3, (.var [(.dat (.sl 1 (v_121.map elB))), (.dat (I (v_122 + 1))), (.dat (B (v_123)))])), (8, (.var [(.dat (I v_120)), (.dat (I 0)), (.dat (.str ([] : List UInt8))), (.own 116), (.own 107)])), (107, (.row 9 1 (l_125.map elStr))), (116, (.row 25 5 (l_124.map encVal)))]) _ (by kernel_rfl) (z4 zt) ?_
  refine T_arr [.ice 107, .ice 116, .ice 8] [4] [8, 107, 116] [0, 1, 2, 3] (mk 122 [(4, (dt (.ptr [(I v_120), (I 0), (.str ([] : List UInt8)), (.sl 5 (l_124.map encVal)), (.sl 1 (l_125.map elStr))])))] [(0, gB0), (1, gB1), (2, gB2), (3, (.var [(.dat (.sl 1 (v_121.map elB))), (.dat (I (v_122 + 1))), (.dat (B (v_123)))]))]) (by kernel_rfl) ?_
  refine T_ret ?_
  obtain rfl := some_inv h
  exact ⟨[(.agg [(.dat (I v_120)), (.dat (I 0)), (.dat (.str ([] : List UInt8))), (.dat (.sl 5 (l_124.map encVal))), (.dat (.sl 1 (l_125.map elStr)))])], by kernel_rfl, rfl⟩
  refine T_block ?_
  refine T_arr [.ownC 11 3 116 25 5, .ownC 11 4 107 9 1] [0, 1, 4, 5, 7] [] [0, 1, 2, 3, 8, 11, 107, 116] _ (by kernel_rfl) (T_loopO (σ := (List UInt8) × Int × Bool × (List Val) × (List (List UInt8))) (fun ((v_127, v_128, v_129, l_130, l_131) : (List UInt8) × Int × Bool × (List Val) × (List (List UInt8))) => (mk 122 [(0, (rf 3 0)), (1, (di depth_2)), (4, (rf 8 0)), (5, (dt (.int .u8 v_3))), (7, (rf 11 0))] [(0, gB0), (1, gB1), (2, gB2), (3, (.var [(.dat (.sl 1 (v_127.map elB))), (.dat (I v_128)), (.dat (B (v_129)))])), (8, (.var [(.dat (I 0)), (.dat (I 0)), (.dat (.str ([] : List UInt8))), (.dat nilS), (.dat nilS)])), (11, (.var [(.dat (I v_120)), (.dat (I 0)), (.dat (.str ([] : List UInt8))), (.own 116), (.own 107)])), (107, (.row 9 1 (l_131.map elStr))), (116, (.row 25 5 (l_130.map encVal)))])) (g__ref02_Reader_Value_s_l24 v_3 depth_2 rc v_120) (r_1.B, (r_1.At + 1), (depth_2 == 16), ([] : List Val), ([] : List (List UInt8))) h (fun v y1 hy1 h => ?_))
  obtain ⟨v_127, v_128, v_129, l_130, l_131⟩ := v
  refine T_seq ?_
  refine T_seqJ (α := Bool × Bool) (fun ((v_137, v_138) : Bool × Bool) => (mk 122 [(0, (rf 3 0)), (1, (di depth_2)), (4, (rf 8 0)), (5, (dt (.int .u8 v_3))), (7, (rf 11 0)), (95, (db (v_137)))] [(0, gB0), (1, gB1), (2, gB2), (3, (.var [(.dat (.sl 1 (v_127.map elB))), (.dat (I v_128)), (.dat (B (v_138)))])), (8, (.var [(.dat (I 0)), (.dat (I 0)), (.dat (.str ([] : List UInt8))), (.dat nilS), (.dat nilS)])), (11, (.var [(.dat (I v_120)), (.dat (I 0)), (.dat (.str ([] : List UInt8))), (.own 116), (.own 107)])), (107, (.row 9 1 (l_131.map elStr))), (116, (.row 25 5 (l_130.map encVal)))])) (fun ((v_137, v_138) : Bool × Bool) => g__ref02_Reader_Value_s_j25 v_3 v_127 v_128 l_131 depth_2 rc l_130 v_120 v_137 v_138 = some y1) (fun v h => ?_) ?_
  obtain ⟨v_137, v_138⟩ := v
  refine T_cond (v_137) (by kernel_rfl) (fun b139 => ?_) (fun b139 => ?_)
  replace h := ite_t b139 h
  refine T_skip ?_
  refine T_block ?_
  refine T_seqJ (α := (List UInt8) × Int × Bool × (List (List UInt8))) (fun ((v_140, v_141, v_142, l_143) : (List UInt8) × Int × Bool × (List (List UInt8))) => (mk 122 [(0, (rf 3 0)), (1, (di depth_2)), (4, (rf 8 0)), (5, (dt (.int .u8 v_3))), (7, (rf 11 0))] [(0, gB0), (1, gB1), (2, gB2), (3, (.var [(.dat (.sl 1 (v_140.map elB))), (.dat (I v_141)), (.dat (B (v_142)))])), (8, (.var [(.dat (I 0)), (.dat (I 0)), (.dat (.str ([] : List UInt8))), (.dat nilS), (.dat nilS)])), (11, (.var [(.dat (I v_120)), (.dat (I 0)), (.dat (.str ([] : List UInt8))), (.own 116), (.own 107)])), (107, (.row 9 1 (l_143.map elStr))), (116, (.row 25 5 (l_130.map encVal)))])) (fun ((v_140, v_141, v_142, l_143) : (List UInt8) × Int × Bool × (List (List UInt8))) => g__ref02_Reader_Value_s_j26 depth_2 rc l_130 v_3 v_120 v_140 v_141 v_142 l_143 = some y1) (fun v h => ?_) ?_
  obtain ⟨v_140, v_141, v_142, l_143⟩ := v
  refine T_arr [] [0, 1, 4, 5, 7] [] [0, 1, 2, 3, 8, 11, 107, 116] (mk 122 [(0, (rf 3 0)), (1, (di depth_2)), (4, (rf 8 0)), (5, (dt (.int .u8 v_3))), (7, (rf 11 0))] [(0, gB0), (1, gB1), (2, gB2), (3, (.var [(.dat (.sl 1 (v_140.map elB))), (.dat (I v_141)), (.dat (B (v_142)))])), (8, (.var [(.dat (I 0)), (.dat (I 0)), (.dat (.str ([] : List UInt8))), (.dat nilS), (.dat nilS)])), (11, (.var [(.dat (I v_120)), (.dat (I 0)), (.dat (.str ([] : List UInt8))), (.own 116), (.own 107)])), (107, (.row 9 1 (l_143.map elStr))), (116, (.row 25 5 (l_130.map encVal)))]) (by kernel_rfl) ?_
  obtain ⟨c144, h⟩ := ckI_inv h
  obtain ⟨y146, e147, hk148, hz149⟩ := bdP_inv h
  rcases y146 with r_145 | u
  replace h := hk148 _ rfl
  obtain ⟨c150, h⟩ := ck_inv h
  refine T_stC [{}, {}, {}, {}, { h := zd (I (depth_2 + 1)) }, {}, {}, { h := zd (.sl 5 ((l_130 ++ [r_145.1]).map encVal)) }, {}, {}] _ [(0, 105, (rf 11 3)), (1, 106, (ow 116)), (2, 107, (rf 3 0)), (3, 108, (di depth_2)), (4, 109, (di (depth_2 + 1))), (5, 110, (.agg (qVal r_145.1))), (6, 111, (ow 115)), (7, 106, J), (7, 112, (ow 116)), (8, 113, (rf 11 3))] [(5, 3, some (.var (qAssizeref02Reader r_145.2))), (6, 115, some (.row 25 5 [ndcVal r_145.1])), (7, 11, some (.var [(.dat (I v_120)), (.dat (I 0)), (.dat (.str ([] : List UInt8))), .junk, (.own 107)])), (7, 116, some (.row 25 5 ((l_130 ++ [r_145.1]).map encVal))), (9, 11, some (.var [(.dat (I v_120)), (.dat (I 0)), (.dat (.str ([] : List UInt8))), (.own 116), (.own 107)]))] [0, 1, 2, 3, 8, 11, 107, 115, 116] 10 [0, 1, 0, 0, 8, 28, 60, 127, 255, 511] 736 [0, 32, 96, 224, 736] [5] none (by kernel_rfl) (by decide) (by kernel_rfl) (by kernel_rfl) (by kernel_rfl) (by kernel_rfl) (by kernel_rfl) (by kernel_rfl) (by kernel_rfl) (zs zt (zs zt (zs zt (zs zt (zs c144 (zs zt (zs (zc zt (show dfill (fun i => some (i * 5, 5)) (List.replicate (1 * 5) .junk) [(0, [(.dat (I r_145.1.k)), (.dat (I r_145.1.n)), (.dat (.str r_145.1.s)), (.dat (.sl 5 (r_145.1.l.map encVal))), (.dat (.sl 1 (r_145.1.ks.map elStr)))])] = some ((flat [ndcVal r_145.1]).map .dat) from rfl)) (zs (zc zt (app_sE encVal ndcVal encVal_nd encVal_one l_130 r_145.1 c150)) (zs zt (zs (zc zt zt) zS)))))))))) ?_ (fun _ => ?_)
  intro c hc; simp only [List.mem_cons, List.not_mem_nil, or_false] at hc; rcases hc with rfl
  exact ⟨_, rfl, callU (hand := [0, 1, 2, 3]) (nb := 100004) [] (hrc e147) [0, 1, 2, 3, 8, 11, 107, 115, 116] (by decide) rfl rfl 5 _ _ _ (by kernel_rfl) (by kernel_rfl) (by kernel_rfl) (by kernel_rfl) (by kernel_rfl) (by kernel_rfl)⟩
  exact Exists.intro (r_145.2.B, r_145.2.At, (r_145.2.Bad), (l_130 ++ [r_145.1]), l_143) (And.intro h (arr [] [0, 1, 4, 5, 7] [115] [0, 1, 2, 3, 8, 11, 107, 116] (by kernel_rfl)))
  replace h := hz149 rfl
  replace h := up_inv h hy1
  obtain rfl := some_inv h
  refine T_stC [{}, {}, {}, {}, { h := zd (I (depth_2 + 1)) }, {}, {}, {}, {}, {}] _ [(0, 105, (rf 11 3)), (1, 106, (ow 116)), (2, 107, (rf 3 0)), (3, 108, (di depth_2)), (4, 109, (di (depth_2 + 1)))] [] [0, 1, 2, 3, 8, 11, 107, 116] 10 [0, 1, 0, 0, 8, 28, 60, 127, 255, 511] 992 [0] [5] (some 5) (by kernel_rfl) (by decide) (by kernel_rfl) (by kernel_rfl) (by kernel_rfl) (by kernel_rfl) (by kernel_rfl) (by kernel_rfl) (by kernel_rfl) (zs zt (zs zt (zs zt (zs zt (zs c144 (zs zt (zs zt (zs zt (zs zt (zs zt zS)))))))))) ?_ (fun h => absurd h (by decide))
  intro c hc; simp only [List.mem_cons, List.not_mem_nil, or_false] at hc; rcases hc with rfl
  refine ⟨_, rfl, callP (hand := [0, 1, 2, 3]) (nb := 100004) [] (hrc e147) rfl rfl 5 _ _ _ (by kernel_rfl) (by kernel_rfl) (by kernel_rfl) (by kernel_rfl) (fun _ _ hlk => ?_)⟩
  exact (show _ ∧ _ from ⟨rfl, ⟨_, rfl, lk3 ((after_lk (by kernel_rfl) rfl).trans (by rw [hlk 0 (by decide)]; kernel_rfl)) ((after_lk (by kernel_rfl) rfl).trans (by rw [hlk 1 (by decide)]; kernel_rfl)) ((after_lk (by kernel_rfl) rfl).trans (by rw [hlk 2 (by decide)]; kernel_rfl))⟩⟩)
  refine T_reg [] [0, 1, 4, 5, 7, 97] [] (mk 122 [(0, (rf 3 0)), (1, (di depth_2)), (4, (rf 8 0)), (5, (dt (.int .u8 v_3))), (7, (rf 11 0)), (97, (db (v_3 == 100)))] [(0, gB0), (1, gB1), (2, gB2), (3, (.var [(.dat (.sl 1 (v_127.map elB))), (.dat (I v_128)), (.dat (B (v_138)))])), (8, (.var [(.dat (I 0)), (.dat (I 0)), (.dat (.str ([] : List UInt8))), (.dat nilS), (.dat nilS)])), (11, (.var [(.dat (I v_120)), (.dat (I 0)), (.dat (.str ([] : List UInt8))), (.own 116), (.own 107)])), (107, (.row 9 1 (l_131.map elStr))), (116, (.row 25 5 (l_130.map encVal)))]) _ (by kernel_rfl) (z4 zt) ?_
  refine T_cond (v_3 == 100) (by kernel_rfl) (fun b151 => ?_) (fun b151 => ?_)
  replace h := ite_t b151 h
  refine T_arr [] [0, 1, 4, 5, 7, 97] [] [0, 1, 2, 3, 8, 11, 107, 116] (mk 122 [(0, (rf 3 0)), (1, (di depth_2)), (4, (rf 8 0)), (5, (dt (.int .u8 v_3))), (7, (rf 11 0)), (97, (db (v_3 == 100)))] [(0, gB0), (1, gB1), (2, gB2), (3, (.var [(.dat (.sl 1 (v_127.map elB))), (.dat (I v_128)), (.dat (B (v_138)))])), (8, (.var [(.dat (I 0)), (.dat (I 0)), (.dat (.str ([] : List UInt8))), (.dat nilS), (.dat nilS)])), (11, (.var [(.dat (I v_120)), (.dat (I 0)), (.dat (.str ([] : List UInt8))), (.own 116), (.own 107)])), (107, (.row 9 1 (l_131.map elStr))), (116, (.row 25 5 (l_130.map encVal)))]) (by kernel_rfl) ?_
  obtain ⟨y153, e154, hk155, hz156⟩ := bdP_inv h
  rcases y153 with r_152 | u
  replace h := hk155 _ rfl
  obtain ⟨c157, h⟩ := ck_inv h
  refine T_stC [{}, {}, {}, {}, {}, { h := zd (.sl 1 ((l_131 ++ [r_152.1]).map elStr)) }, {}, {}] _ [(0, 98, (rf 11 4)), (1, 99, (ow 107)), (2, 100, (rf 3 0)), (3, 101, (dt (.str r_152.1))), (4, 102, (ow 106)), (5, 99, J), (5, 103, (ow 107)), (6, 104, (rf 11 4))] [(3, 3, some (.var (qAssizeref02Reader r_152.2))), (4, 106, some (.row 9 1 ([r_152.1].map elStr))), (5, 11, some (.var [(.dat (I v_120)), (.dat (I 0)), (.dat (.str ([] : List UInt8))), (.own 116), .junk])), (5, 107, some (.row 9 1 ((l_131 ++ [r_152.1]).map elStr))), (7, 11, some (.var [(.dat (I v_120)), (.dat (I 0)), (.dat (.str ([] : List UInt8))), (.own 116), (.own 107)]))] [0, 1, 2, 3, 8, 11, 106, 107, 116] 8 [0, 1, 0, 4, 12, 31, 63, 127] 184 [0, 8, 24, 56, 184] [3] none (by kernel_rfl) (by decide) (by kernel_rfl) (by kernel_rfl) (by kernel_rfl) (by kernel_rfl) (by kernel_rfl) (by kernel_rfl) (by kernel_rfl) (zs zt (zs zt (zs zt (zs zt (zs (zc zt (show dfill (fun i => some (i * 1, 1)) (List.replicate (1 * 1) .junk) [(0, [(.dat (.str r_152.1))])] = some ((flat ([r_152.1].map elStr)).map .dat) from rfl)) (zs (zc zt (app_s elStr elStr_one l_131 ([r_152.1]) c157)) (zs zt (zs (zc zt zt) zS)))))))) ?_ (fun _ => ?_)
  intro c hc; simp only [List.mem_cons, List.not_mem_nil, or_false] at hc; rcases hc with rfl
  exact ⟨_, rfl, callU (hand := [0, 1, 2, 3]) (nb := 100004) [] (g__ref02_Reader_text_ret e154) [0, 1, 2, 3, 8, 11, 106, 107, 116] (by decide) rfl rfl 3 _ _ _ (by kernel_rfl) (by kernel_rfl) (by kernel_rfl) (by kernel_rfl) (by kernel_rfl) (by kernel_rfl)⟩
  exact Exists.intro (r_152.2.B, r_152.2.At, (r_152.2.Bad), (l_131 ++ [r_152.1])) (And.intro h (arr [] [0, 1, 4, 5, 7] [106] [0, 1, 2, 3, 8, 11, 107, 116] (by kernel_rfl)))
  replace h := hz156 rfl
  replace h := up_inv h hy1
  obtain rfl := some_inv h
  refine T_stC [{}, {}, {}, {}, {}, {}, {}, {}] _ [(0, 98, (rf 11 4)), (1, 99, (ow 107)), (2, 100, (rf 3 0))] [] [0, 1, 2, 3, 8, 11, 107, 116] 8 [0, 1, 0, 4, 12, 31, 63, 127] 248 [0] [3] (some 3) (by kernel_rfl) (by decide) (by kernel_rfl) (by kernel_rfl) (by kernel_rfl) (by kernel_rfl) (by kernel_rfl) (by kernel_rfl) (by kernel_rfl) (zs zt (zs zt (zs zt (zs zt (zs zt (zs zt (zs zt (zs zt zS)))))))) ?_ (fun h => absurd h (by decide))
  intro c hc; simp only [List.mem_cons, List.not_mem_nil, or_false] at hc; rcases hc with rfl
  refine ⟨_, rfl, callP (hand := [0, 1, 2, 3]) (nb := 100004) [] (g__ref02_Reader_text_ret e154) rfl rfl 3 _ _ _ (by kernel_rfl) (by kernel_rfl) (by kernel_rfl) (by kernel_rfl) (fun _ _ hlk => ?_)⟩
  exact (show _ ∧ _ from ⟨rfl, ⟨_, rfl, lk3 ((after_lk (by kernel_rfl) rfl).trans (by rw [hlk 0 (by decide)]; kernel_rfl)) ((after_lk (by kernel_rfl) rfl).trans (by rw [hlk 1 (by decide)]; kernel_rfl)) ((after_lk (by kernel_rfl) rfl).trans (by rw [hlk 2 (by decide)]; kernel_rfl))⟩⟩)
  replace h := ite_f b151 h
  refine T_skip ?_
  exact Exists.intro (v_127, v_128, (v_138), l_131) (And.intro h (arr [] [0, 1, 4, 5, 7] [] [0, 1, 2, 3, 8, 11, 107, 116] (by kernel_rfl)))
  replace h := ite_f b139 h
  refine T_exit ?_
  replace h := up_inv h hy1
  exact Exists.intro (v_127, v_128, (v_138), l_130, l_131) (And.intro h (arr [] [0, 4, 7] [] [0, 1, 2, 3, 8, 11, 107, 116] (by kernel_rfl)))
  rcases Bool.eq_false_or_eq_true (!(v_129)) with b158 | b158
  replace h := ite_t b158 h
  refine T_parts ?_
  refine TL_part 7 [] (mk 122 [(0, (rf 3 0)), (1, (di depth_2)), (4, (rf 8 0)), (5, (dt (.int .u8 v_3))), (7, (rf 11 0)), (86, (rf 3 0)), (87, (rf 3 0)), (88, (rf 3 2)), (89, (db (v_129))), (90, (db (!(v_129)))), (91, (db (!(v_129)))), (92, (rf 3 0))] [(0, gB0), (1, gB1), (2, gB2), (3, (.var [(.dat (.sl 1 (v_127.map elB))), (.dat (I v_128)), (.dat (B (v_129)))])), (8, (.var [(.dat (I 0)), (.dat (I 0)), (.dat (.str ([] : List UInt8))), (.dat nilS), (.dat nilS)])), (11, (.var [(.dat (I v_120)), (.dat (I 0)), (.dat (.str ([] : List UInt8))), (.own 116), (.own 107)])), (107, (.row 9 1 (l_131.map elStr))), (116, (.row 25 5 (l_130.map encVal)))]) _ (by kernel_rfl) (z8 (z4 (zc (gd_tt b158) (z1 zt)))) rfl ?_
  refine TL_guard (p := ((!(v_129)) == true) = true) (by kernel_rfl) (gd_tt b158) ?_
  refine TL_consJ (α := Int × Bool) (fun ((v_159, v_160) : Int × Bool) => (mk 122 [(0, (rf 3 0)), (1, (di depth_2)), (4, (rf 8 0)), (5, (dt (.int .u8 v_3))), (7, (rf 11 0)), (91, (db (!(v_129)))), (93, (dt (.int .u8 v_159)))] [(0, gB0), (1, gB1), (2, gB2), (3, (.var [(.dat (.sl 1 (v_127.map elB))), (.dat (I v_128)), (.dat (B (v_160)))])), (8, (.var [(.dat (I 0)), (.dat (I 0)), (.dat (.str ([] : List UInt8))), (.dat nilS), (.dat nilS)])), (11, (.var [(.dat (I v_120)), (.dat (I 0)), (.dat (.str ([] : List UInt8))), (.own 116), (.own 107)])), (107, (.row 9 1 (l_131.map elStr))), (116, (.row 25 5 (l_130.map encVal)))])) (fun ((v_159, v_160) : Int × Bool) => g__ref02_Reader_Value_s_j27 v_3 v_127 v_128 l_131 depth_2 rc l_130 v_120 v_129 v_159 v_160 = some y1) (fun v h => ?_) ?_
  obtain ⟨v_159, v_160⟩ := v
  refine TL_turn [] [0, 1, 4, 5, 7, 91, 93] [] (mk 122 [(0, (rf 3 0)), (1, (di depth_2)), (4, (rf 8 0)), (5, (dt (.int .u8 v_3))), (7, (rf 11 0)), (91, (db (!(v_129)))), (93, (dt (.int .u8 v_159)))] [(0, gB0), (1, gB1), (2, gB2), (3, (.var [(.dat (.sl 1 (v_127.map elB))), (.dat (I v_128)), (.dat (B (v_160)))])), (8, (.var [(.dat (I 0)), (.dat (I 0)), (.dat (.str ([] : List UInt8))), (.dat nilS), (.dat nilS)])), (11, (.var [(.dat (I v_120)), (.dat (I 0)), (.dat (.str ([] : List UInt8))), (.own 116), (.own 107)])), (107, (.row 9 1 (l_131.map elStr))), (116, (.row 25 5 (l_130.map encVal)))]) (by kernel_rfl) ?_
  refine TL_part 2 [zn, (zd (B true))] (mk 122 [(0, (rf 3 0)), (1, (di depth_2)), (4, (rf 8 0)), (5, (dt (.int .u8 v_3))), (7, (rf 11 0)), (91, (db (!(v_129)))), (93, (dt (.int .u8 v_159))), (94, (db (v_159 != 101))), (95, (db (v_159 != 101)))] [(0, gB0), (1, gB1), (2, gB2), (3, (.var [(.dat (.sl 1 (v_127.map elB))), (.dat (I v_128)), (.dat (B (v_160)))])), (8, (.var [(.dat (I 0)), (.dat (I 0)), (.dat (.str ([] : List UInt8))), (.dat nilS), (.dat nilS)])), (11, (.var [(.dat (I v_120)), (.dat (I 0)), (.dat (.str ([] : List UInt8))), (.own 116), (.own 107)])), (107, (.row 9 1 (l_131.map elStr))), (116, (.row 25 5 (l_130.map encVal)))]) _ (by kernel_rfl) (zc (gd_tt b158) (z2 (zc b158 zt))) rfl ?_
  refine TL_nilQ ?_
  exact Exists.intro ((v_159 != 101), (v_160)) (And.intro h (arr [] [0, 1, 4, 5, 7, 95] [] [0, 1, 2, 3, 8, 11, 107, 116] (by kernel_rfl)))
  refine TL_inlineP 126 51 [] Tryd.f51 _ rfl rfl (by kernel_rfl) Tryd.func51 rfl rfl (by decide) ?_
  refine T_turn [] [0] [] (mk 26 [(0, (rf 3 0))] [(0, gB0), (1, gB1), (2, gB2), (3, (.var [(.dat (.sl 1 (v_127.map elB))), (.dat (I v_128)), (.dat (B (v_129)))])), (8, (.var [(.dat (I 0)), (.dat (I 0)), (.dat (.str ([] : List UInt8))), (.dat nilS), (.dat nilS)])), (11, (.var [(.dat (I v_120)), (.dat (I 0)), (.dat (.str ([] : List UInt8))), (.own 116), (.own 107)])), (107, (.row 9 1 (l_131.map elStr))), (116, (.row 25 5 (l_130.map encVal)))]) (by kernel_rfl) ?_
  refine T_reg [] [0] [] (mk 26 [(0, (rf 3 0))] [(0, gB0), (1, gB1), (2, gB2), (3, (.var [(.dat (.sl 1 (v_127.map elB))), (.dat (I v_128)), (.dat (B (v_129)))])), (8, (.var [(.dat (I 0)), (.dat (I 0)), (.dat (.str ([] : List UInt8))), (.dat nilS), (.dat nilS)])), (11, (.var [(.dat (I v_120)), (.dat (I 0)), (.dat (.str ([] : List UInt8))), (.own 116), (.own 107)])), (107, (.row 9 1 (l_131.map elStr))), (116, (.row 25 5 (l_130.map encVal)))]) _ (by kernel_rfl) (z2 zt) ?_
  refine T_seq ?_
  refine T_regD 10 (hl 9 [(8, (zd (I ((v_127.length : Nat) : Int))))]) [0, 12] [] (mk 26 [(0, (rf 3 0)), (12, (db (decide (v_128 < ((v_127.length : Nat) : Int)))))] [(0, gB0), (1, gB1), (2, gB2), (3, (.var [(.dat (.sl 1 (v_127.map elB))), (.dat (I v_128)), (.dat (B (v_129)))])), (8, (.var [(.dat (I 0)), (.dat (I 0)), (.dat (.str ([] : List UInt8))), (.dat nilS), (.dat nilS)])), (11, (.var [(.dat (I v_120)), (.dat (I 0)), (.dat (.str ([] : List UInt8))), (.own 116), (.own 107)])), (107, (.row 9 1 (l_131.map elStr))), (116, (.row 25 5 (l_130.map encVal)))]) _ (by kernel_rfl) (by kernel_rfl) (by kernel_rfl) (zc (z8 (z8 (z1 (zc (len_s elB v_127) (z2 zt))))) zt) ?_
  refine T_cond (decide (v_128 < ((v_127.length : Nat) : Int))) (by kernel_rfl) (fun b161 => ?_) (fun b161 => ?_)
  replace h := ite_t b161 h
  obtain ⟨x_162, e163, e164, e165, h⟩ := gt_inv elB h
  refine T_regD 11 (hl 9 [(8, (zd (.int .u8 ((x_162.toNat : Nat) : Int))))]) [2] [] (mk 26 [(2, (dt (.int .u8 ((x_162.toNat : Nat) : Int))))] [(0, gB0), (1, gB1), (2, gB2), (3, (.var [(.dat (.sl 1 (v_127.map elB))), (.dat (I v_128)), (.dat (B (v_129)))])), (8, (.var [(.dat (I 0)), (.dat (I 0)), (.dat (.str ([] : List UInt8))), (.dat nilS), (.dat nilS)])), (11, (.var [(.dat (I v_120)), (.dat (I 0)), (.dat (.str ([] : List UInt8))), (.own 116), (.own 107)])), (107, (.row 9 1 (l_131.map elStr))), (116, (.row 25 5 (l_130.map encVal)))]) _ (by kernel_rfl) (by kernel_rfl) (by kernel_rfl) (zc (z8 (z8 (z1 (zc e163 (z4 zt))))) zt) ?_
  refine T_ret ?_
  refine ⟨[(dt (.int .u8 ((x_162.toNat : Nat) : Int)))], by kernel_rfl, ?_⟩
  refine TL_nilQ ?_
  exact Exists.intro (((x_162.toNat : Nat) : Int), (v_129)) (And.intro h (arr [] [0, 1, 4, 5, 7, 91, 93] [] [0, 1, 2, 3, 8, 11, 107, 116] (by kernel_rfl)))
  replace h := ite_f b161 h
  refine T_skip ?_
  refine T_reg [] [] [] (mk 26 [] [(0, gB0), (1, gB1), (2, gB2), (3, (.var [(.dat (.sl 1 (v_127.map elB))), (.dat (I v_128)), (.dat (B true))])), (8, (.var [(.dat (I 0)), (.dat (I 0)), (.dat (.str ([] : List UInt8))), (.dat nilS), (.dat nilS)])), (11, (.var [(.dat (I v_120)), (.dat (I 0)), (.dat (.str ([] : List UInt8))), (.own 116), (.own 107)])), (107, (.row 9 1 (l_131.map elStr))), (116, (.row 25 5 (l_130.map encVal)))]) _ (by kernel_rfl) (z8 zt) ?_
  refine T_reg [] [2] [] (mk 26 [(2, (dt (.int .u8 0)))] [(0, gB0), (1, gB1), (2, gB2), (3, (.var [(.dat (.sl 1 (v_127.map elB))), (.dat (I v_128)), (.dat (B true))])), (8, (.var [(.dat (I 0)), (.dat (I 0)), (.dat (.str ([] : List UInt8))), (.dat nilS), (.dat nilS)])), (11, (.var [(.dat (I v_120)), (.dat (I 0)), (.dat (.str ([] : List UInt8))), (.own 116), (.own 107)])), (107, (.row 9 1 (l_131.map elStr))), (116, (.row 25 5 (l_130.map encVal)))]) _ (by kernel_rfl) (z2 zt) ?_
  refine T_ret ?_
  refine ⟨[(dt (.int .u8 0))], by kernel_rfl, ?_⟩
  refine TL_nilQ ?_
  exact Exists.intro (0, true) (And.intro h (arr [] [0, 1, 4, 5, 7, 91, 93] [] [0, 1, 2, 3, 8, 11, 107, 116] (by kernel_rfl)))
  replace h := ite_f b158 h
  exact T_regJ [zn, zn, zn, zn, zn, zn, zg, zg, zg, (zd (B false))] [] [0, 1, 4, 5, 7, 95] [] [0, 1, 2, 3, 8, 11, 107, 116] _ _ (by kernel_rfl) (z8 (z4 (zc (gd_ft b158) (zc (gd_ft b158) (zc (gd_ft b158) (z1 (zc b158 zt))))))) (fun s hs => Exists.intro (false, (v_129)) (And.intro h hs))
  refine T_reg [] [0, 1, 4, 5, 7, 73] [] (mk 122 [(0, (rf 3 0)), (1, (di depth_2)), (4, (rf 8 0)), (5, (dt (.int .u8 v_3))), (7, (rf 11 0)), (73, (db (v_3 == 100)))] [(11, (.var [(.dat (I 3)), (.dat (I 0)), (.dat (.str ([] : List UInt8))), (.dat nilS), (.dat nilS)])), (0, gB0), (1, gB1), (2, gB2), (3, (.var [(.dat (.sl 1 (r_1.B.map elB))), (.dat (I (r_1.At + 1))), (.dat (B (v_4)))])), (8, (.var [(.dat (I 0)), (.dat (I 0)), (.dat (.str ([] : List UInt8))), (.dat nilS), (.dat nilS)]))]) _ (by kernel_rfl) (z4 zt) ?_
  refine T_cond (v_3 == 100) (by kernel_rfl) (fun b166 => ?_) (fun b166 => ?_)
  replace h := ite_t b166 h
  exact T_regJ [] [] [0, 1, 4, 5, 7] [] [0, 1, 2, 3, 8, 11] _ _ (by kernel_rfl) (z4 zt) (fun s hs => Exists.intro 4 (And.intro h hs))
  replace h := ite_f b166 h
  refine T_skip ?_
  exact Exists.intro 3 (And.intro h (arr [] [0, 1, 4, 5, 7] [] [0, 1, 2, 3, 8, 11] (by kernel_rfl)))
  rcases Bool.eq_false_or_eq_true (v_3 != 108) with b167 | b167
  replace h := ite_t b167 h
  exact T_regJ (hl 6 [(5, (zd (B true)))]) [] [0, 1, 4, 5, 54] [] [0, 1, 2, 3, 8] _ _ (by kernel_rfl) (z6 (zc (gd_tt b167) (z1 (zc (gd_tt b167) (z2 (zc b167 (z2 zt))))))) (fun s hs => Exists.intro (v_3 != 100) (And.intro h hs))
  replace h := ite_f b167 h
  exact T_regJ [zn, zn, zn, zg, zg, (zd (B false))] [] [0, 1, 4, 5, 54] [] [0, 1, 2, 3, 8] _ _ (by kernel_rfl) (z6 (zc (gd_ft b167) (zc (gd_ft b167) (z1 (zc b167 (z2 zt)))))) (fun s hs => Exists.intro false (And.intro h hs))
  refine TL_inlineP 126 51 [] Tryd.f51 _ rfl rfl (by kernel_rfl) Tryd.func51 rfl rfl (by decide) ?_
  refine T_turn [] [0] [] (mk 26 [(0, (rf 3 0))] [(8, (.var [(.dat (I 0)), (.dat (I 0)), (.dat (.str ([] : List UInt8))), (.dat nilS), (.dat nilS)])), (0, gB0), (1, gB1), (2, gB2), (3, (.var (qAssizeref02Reader r_1)))]) (by kernel_rfl) ?_
  refine T_reg [] [0] [] (mk 26 [(0, (rf 3 0))] [(8, (.var [(.dat (I 0)), (.dat (I 0)), (.dat (.str ([] : List UInt8))), (.dat nilS), (.dat nilS)])), (0, gB0), (1, gB1), (2, gB2), (3, (.var (qAssizeref02Reader r_1)))]) _ (by kernel_rfl) (z2 zt) ?_
  refine T_seq ?_
  refine T_regD 10 (hl 9 [(8, (zd (I ((r_1.B.length : Nat) : Int))))]) [0, 12] [] (mk 26 [(0, (rf 3 0)), (12, (db (decide (r_1.At < ((r_1.B.length : Nat) : Int)))))] [(8, (.var [(.dat (I 0)), (.dat (I 0)), (.dat (.str ([] : List UInt8))), (.dat nilS), (.dat nilS)])), (0, gB0), (1, gB1), (2, gB2), (3, (.var (qAssizeref02Reader r_1)))]) _ (by kernel_rfl) (by kernel_rfl) (by kernel_rfl) (zc (z8 (z8 (z1 (zc (len_s elB r_1.B) (z2 zt))))) zt) ?_
  refine T_cond (decide (r_1.At < ((r_1.B.length : Nat) : Int))) (by kernel_rfl) (fun b168 => ?_) (fun b168 => ?_)
  replace h := ite_t b168 h
  obtain ⟨x_169, e170, e171, e172, h⟩ := gt_inv elB h
  refine T_regD 11 (hl 9 [(8, (zd (.int .u8 ((x_169.toNat : Nat) : Int))))]) [2] [] (mk 26 [(2, (dt (.int .u8 ((x_169.toNat : Nat) : Int))))] [(8, (.var [(.dat (I 0)), (.dat (I 0)), (.dat (.str ([] : List UInt8))), (.dat nilS), (.dat nilS)])), (0, gB0), (1, gB1), (2, gB2), (3, (.var (qAssizeref02Reader r_1)))]) _ (by kernel_rfl) (by kernel_rfl) (by kernel_rfl) (zc (z8 (z8 (z1 (zc e170 (z4 zt))))) zt) ?_
  refine T_ret ?_
  refine ⟨[(dt (.int .u8 ((x_169.toNat : Nat) : Int)))], by kernel_rfl, ?_⟩
  refine TL_nilQ ?_
  exact Exists.intro (((x_169.toNat : Nat) : Int), (r_1.Bad)) (And.intro h (arr [] [0, 1, 4, 9] [] [0, 1, 2, 3, 8] (by kernel_rfl)))
  replace h := ite_f b168 h
  refine T_skip ?_
  refine T_reg [] [] [] (mk 26 [] [(8, (.var [(.dat (I 0)), (.dat (I 0)), (.dat (.str ([] : List UInt8))), (.dat nilS), (.dat nilS)])), (0, gB0), (1, gB1), (2, gB2), (3, (.var [(.dat (.sl 1 (r_1.B.map elB))), (.dat (I r_1.At)), (.dat (B true))]))]) _ (by kernel_rfl) (z8 zt) ?_
  refine T_reg [] [2] [] (mk 26 [(2, (dt (.int .u8 0)))] [(8, (.var [(.dat (I 0)), (.dat (I 0)), (.dat (.str ([] : List UInt8))), (.dat nilS), (.dat nilS)])), (0, gB0), (1, gB1), (2, gB2), (3, (.var [(.dat (.sl 1 (r_1.B.map elB))), (.dat (I r_1.At)), (.dat (B true))]))]) _ (by kernel_rfl) (z2 zt) ?_
  refine T_ret ?_
  refine ⟨[(dt (.int .u8 0))], by kernel_rfl, ?_⟩
  refine TL_nilQ ?_
  exact Exists.intro (0, true) (And.intro h (arr [] [0, 1, 4, 9] [] [0, 1, 2, 3, 8] (by kernel_rfl)))
theorem g__ref02_Reader_Value_ret : ∀ {fu : Nat} {r_1 : Assizeref02Reader} {depth_2 : Int} {r : (Val × Assizeref02Reader) ⊕ Unit}, g__ref02_Reader_Value fu r_1 depth_2 = some r → CT Tryd.prog 34 4 [(rf 3 0), (di depth_2)] [(0, gB0), (1, gB1), (2, gB2), (3, (.var (qAssizeref02Reader r_1)))] (CoR 3 ghosts (fun x => ((.agg (qVal x.1)), [(0, gB0), (1, gB1), (2, gB2), (3, (.var (qAssizeref02Reader x.2)))])) (.iface 29 (.int .i64 20)) r)
  | 0, _, _, _, h => by cases h
  | fu + 1, _, _, _, h => g__ref02_Reader_Value_s_ret (fun {_} {_} {_} h => g__ref02_Reader_Value_ret h) h

end Go.Proofs.YtimalbkjflfdoaaDoor

namespace Go.Proofs.YtimalbkjflfdoaaDoor
open Go.DL
set_option maxRecDepth 100000
set_option maxHeartbeats 4000000
noncomputable def g_ref02_Decode_j1 (r_2 : Val × Assizeref02Reader) (v_7 : Bool) : Option ((Val × Int) ⊕ Unit) :=
  if (v_7) = true then (some (.inl ((⟨0, 0, ([] : List UInt8), ([] : List Val), ([] : List (List UInt8))⟩ : Val), 20))) else some (.inl (r_2.1, 0))
noncomputable def g_ref02_Decode (b_1 : List UInt8) : Option ((Val × Int) ⊕ Unit) :=
  bdP (g__ref02_Reader_Value 60 (⟨b_1, 0, false⟩ : Assizeref02Reader) 0) (fun r_2 => if (r_2.2.Bad) = true then (g_ref02_Decode_j1 r_2 true) else if (r_2.2.At != ((b_1.length : Nat) : Int)) = true then (g_ref02_Decode_j1 r_2 true) else bd (g_ref02_Check r_2.1) fun r_11 => if (r_11 != 0) = true then (g_ref02_Decode_j1 r_2 true) else bd (g_ref02_encode 60 r_2.1) fun r_14 => g_ref02_Decode_j1 r_2 (!(r_14 == b_1))) (some (.inr ()))
end Go.Proofs.YtimalbkjflfdoaaDoor

namespace Go.Proofs.YtimalbkjflfdoaaDoor
open Go.DL
set_option maxRecDepth 100000
set_option maxHeartbeats 4000000
theorem g_ref02_Decode_ret {b_1 : List UInt8} {r : (Val × Int) ⊕ Unit} (h : g_ref02_Decode b_1 = some r) : CT Tryd.prog 17 3 [(dt (.sl 1 (b_1.map elB)))] ghosts (CoR 3 ghosts (fun x => ((.tup [(true, (qVal x.1)), (false, [(.dat (I x.2))])]), ghosts)) (.iface 29 (.int .i64 20)) r) := by
  refine CT.of_T Tryd.func17 (by kernel_rfl) rfl ?_
  refine T_turn [] [0] [] (mk 39 [(0, (dt (.sl 1 (b_1.map elB))))] ghosts) (by kernel_rfl) ?_
  refine T_reg [] [0, 2] [] (mk 39 [(0, (dt (.sl 1 (b_1.map elB)))), (2, (rf 5 0))] [(5, (.var [(.dat (I 0)), (.dat (I 0)), (.dat (.str ([] : List UInt8))), (.dat nilS), (.dat nilS)])), (0, gB0), (1, gB1), (2, gB2)]) _ (by kernel_rfl) (z4 zt) ?_
  refine T_reg [] [0, 2, 4] [] (mk 39 [(0, (dt (.sl 1 (b_1.map elB)))), (2, (rf 5 0)), (4, (rf 11 0))] [(11, (.var [(.dat (.sl 1 (b_1.map elB))), (.dat (I 0)), (.dat (B false))])), (5, (.var [(.dat (I 0)), (.dat (I 0)), (.dat (.str ([] : List UInt8))), (.dat nilS), (.dat nilS)])), (0, gB0), (1, gB1), (2, gB2)]) _ (by kernel_rfl) (z8 zt) ?_
  refine T_seq (T_parts ?_)
  refine TL_part 1 [] (mk 39 [(0, (dt (.sl 1 (b_1.map elB)))), (2, (rf 5 0)), (4, (rf 11 0)), (9, (rf 11 0))] [(11, (.var [(.dat (.sl 1 (b_1.map elB))), (.dat (I 0)), (.dat (B false))])), (5, (.var [(.dat (I 0)), (.dat (I 0)), (.dat (.str ([] : List UInt8))), (.dat nilS), (.dat nilS)])), (0, gB0), (1, gB1), (2, gB2)]) _ (by kernel_rfl) (z2 zt) rfl ?_
  obtain ⟨y3, e4, hk5, hz6⟩ := bdP_inv h
  refine TL_ct 34 [0, 1, 2, 11] 100003 _ _ [] (g__ref02_Reader_Value_ret e4) rfl rfl (by kernel_rfl) (by kernel_rfl) (by kernel_rfl) (by kernel_rfl) (fun l bx' hR => ?_) (fun d bx' hR => ?_)
  obtain ⟨r_2, rfl, rfl, rfl⟩ := CoR_ret hR
  replace h := hk5 _ rfl
  refine TL_turn [] [0, 2, 4, 10] [] (mk 39 [(0, (dt (.sl 1 (b_1.map elB)))), (2, (rf 5 0)), (4, (rf 11 0)), (10, (.agg (qVal r_2.1)))] [(5, (.var [(.dat (I 0)), (.dat (I 0)), (.dat (.str ([] : List UInt8))), (.dat nilS), (.dat nilS)])), (0, gB0), (1, gB1), (2, gB2), (11, (.var (qAssizeref02Reader r_2.2)))]) (by kernel_rfl) ?_
  refine TL_part 2 [] (mk 39 [(0, (dt (.sl 1 (b_1.map elB)))), (2, (rf 5 0)), (4, (rf 11 0)), (5, (rf 8 0)), (10, (.agg (qVal r_2.1)))] [(8, (.var (qVal r_2.1))), (5, (.var [(.dat (I 0)), (.dat (I 0)), (.dat (.str ([] : List UInt8))), (.dat nilS), (.dat nilS)])), (0, gB0), (1, gB1), (2, gB2), (11, (.var (qAssizeref02Reader r_2.2)))]) _ (by kernel_rfl) (z4 zt) rfl ?_
  refine TL_nilQ ?_
  refine T_turn [] [0, 2, 4, 5] [] (mk 39 [(0, (dt (.sl 1 (b_1.map elB)))), (2, (rf 5 0)), (4, (rf 11 0)), (5, (rf 8 0))] [(8, (.var (qVal r_2.1))), (5, (.var [(.dat (I 0)), (.dat (I 0)), (.dat (.str ([] : List UInt8))), (.dat nilS), (.dat nilS)])), (0, gB0), (1, gB1), (2, gB2), (11, (.var (qAssizeref02Reader r_2.2)))]) (by kernel_rfl) ?_
  refine T_seq ?_
  refine T_seqJ (α := Bool) (fun (v_7 : Bool) => (mk 39 [(2, (rf 5 0)), (5, (rf 8 0)), (36, (db (v_7)))] [(0, gB0), (1, gB1), (2, gB2), (5, (.var [(.dat (I 0)), (.dat (I 0)), (.dat (.str ([] : List UInt8))), (.dat nilS), (.dat nilS)])), (8, (.var (qVal r_2.1)))])) (fun (v_7 : Bool) => g_ref02_Decode_j1 r_2 v_7 = some r) (fun v_7 h => ?_) ?_
  refine T_cond (v_7) (by kernel_rfl) (fun b8 => ?_) (fun b8 => ?_)
  replace h := ite_t b8 h
  refine T_reg [] [2, 3] [8] (mk 39 [(2, (rf 5 0)), (3, (di 20))] [(0, gB0), (1, gB1), (2, gB2), (5, (.var [(.dat (I 0)), (.dat (I 0)), (.dat (.str ([] : List UInt8))), (.dat nilS), (.dat nilS)]))]) _ (by kernel_rfl) (z6 zt) ?_
  refine T_arr [.nilC 5 3 5, .nilC 5 4 1, .ice 5] [2, 3] [5] [0, 1, 2] (mk 39 [(2, (dt (.ptr [(I 0), (I 0), (.str ([] : List UInt8)), (.sl 5 (([] : List Val).map encVal)), (.sl 1 (([] : List (List UInt8)).map elStr))]))), (3, (di 20))] ghosts) (by kernel_rfl) ?_
  refine T_ret ?_
  obtain rfl := some_inv h
  exact ⟨[(.agg [(.dat (I 0)), (.dat (I 0)), (.dat (.str ([] : List UInt8))), (.dat (.sl 5 (([] : List Val).map encVal))), (.dat (.sl 1 (([] : List (List UInt8)).map elStr)))]), (di 20)], by kernel_rfl, rfl⟩
  replace h := ite_f b8 h
  refine T_skip ?_
  refine T_reg [] [2, 3] [8] (mk 39 [(2, (rf 5 0)), (3, (di 0))] [(0, gB0), (1, gB1), (2, gB2), (5, (.var (qVal r_2.1)))]) _ (by kernel_rfl) (z6 zt) ?_
  refine T_arr [.ice 5] [2, 3] [5] [0, 1, 2] (mk 39 [(2, (dt (.ptr [(I r_2.1.k), (I r_2.1.n), (.str r_2.1.s), (.sl 5 (r_2.1.l.map encVal)), (.sl 1 (r_2.1.ks.map elStr))]))), (3, (di 0))] ghosts) (by kernel_rfl) ?_
  refine T_ret ?_
  obtain rfl := some_inv h
  exact ⟨[(.agg (qVal r_2.1)), (di 0)], by kernel_rfl, rfl⟩
  rcases Bool.eq_false_or_eq_true (r_2.2.Bad) with b9 | b9
  replace h := ite_t b9 h
  exact T_regJD 26 [zn, zn, zn, zn, zn, zg, zg, zg, zg, zg, zg, zg, (zd (B true)), zn, zg, zg, zg, (zd (B true)), zn, zg, zg, zg, zg, zg, zg, (zd (B true))] [] [2, 5, 36] [11] [0, 1, 2, 5, 8] _ _ (by kernel_rfl) (by kernel_rfl) (by kernel_rfl) (zc (z8 (z2 (zc (gd_tf b9) (zc (gd_tf b9) (zc (gd_tf b9) (zc (gd_tf b9) (zc (gd_tf b9) (zc (gd_tf b9) (zc (gd_tf b9) (z1 (zc b9 (z2 (zc (gd_tf (rfl : true = true)) (zc (gd_tf (rfl : true = true)) (zc (gd_tf (rfl : true = true)) (z1 (zc (rfl : true = true) (z2 (zc (gd_tf (rfl : true = true)) (zc (gd_tf (rfl : true = true)) (zc (gd_tf (rfl : true = true)) (zc (gd_tf (rfl : true = true)) (zc (gd_tf (rfl : true = true)) (zc (gd_tf (rfl : true = true)) (z1 (zc (rfl : true = true) zt)))))))))))))))))))))))))) zt) (fun s hs => Exists.intro true (And.intro h hs))
  replace h := ite_f b9 h
  rcases Bool.eq_false_or_eq_true (r_2.2.At != ((b_1.length : Nat) : Int)) with b10 | b10
  replace h := ite_t b10 h
  exact T_regJD 26 [zn, zn, zn, zn, zn, zn, zn, zn, zn, zn, (zd (I ((b_1.length : Nat) : Int))), zn, (zd (B false)), zn, zg, zg, zg, (zd (B true)), zn, zg, zg, zg, zg, zg, zg, (zd (B true))] [] [2, 5, 36] [11] [0, 1, 2, 5, 8] _ _ (by kernel_rfl) (by kernel_rfl) (by kernel_rfl) (zc (z8 (z2 (zc (gd_ff b9) (z1 (zc (gd_ff b9) (z1 (zc (gd_ff b9) (z1 (zc (gd_ff b9) (z1 (zc (gd_ff b9) (z1 (zc (gd_ff b9) (zc (len_s elB b_1) (zc (gd_ff b9) (z2 (zc b9 (z2 (zc (gd_tf b10) (zc (gd_tf b10) (zc (gd_tf b10) (z1 (zc b10 (z2 (zc (gd_tf (rfl : true = true)) (zc (gd_tf (rfl : true = true)) (zc (gd_tf (rfl : true = true)) (zc (gd_tf (rfl : true = true)) (zc (gd_tf (rfl : true = true)) (zc (gd_tf (rfl : true = true)) (z1 (zc (rfl : true = true) zt)))))))))))))))))))))))))))))))) zt) (fun s hs => Exists.intro true (And.intro h hs))
  replace h := ite_f b10 h
  obtain ⟨r_11, e12, h⟩ := bd_inv h
  rcases Bool.eq_false_or_eq_true (r_11 != 0) with b13 | b13
  replace h := ite_t b13 h
  exact T_regJD 26 [zn, zn, zn, zn, zn, zn, zn, zn, zn, zn, (zd (I ((b_1.length : Nat) : Int))), zn, (zd (B false)), zn, zn, (zd (I r_11)), zn, (zd (B false)), zn, zg, zg, zg, zg, zg, zg, (zd (B true))] [] [2, 5, 36] [11] [0, 1, 2, 5, 8] _ _ (by kernel_rfl) (by kernel_rfl) (by kernel_rfl) (zc (z8 (z2 (zc (gd_ff b9) (z1 (zc (gd_ff b9) (z1 (zc (gd_ff b9) (z1 (zc (gd_ff b9) (z1 (zc (gd_ff b9) (z1 (zc (gd_ff b9) (zc (len_s elB b_1) (zc (gd_ff b9) (z2 (zc b9 (z2 (zc (gd_ff b10) (z1 (zc (gd_ff b10) (zc (g_ref02_Check_ret e12) (zc (gd_ff b10) (z2 (zc b10 (z2 (zc (gd_tf b13) (zc (gd_tf b13) (zc (gd_tf b13) (zc (gd_tf b13) (zc (gd_tf b13) (zc (gd_tf b13) (z1 (zc b13 zt)))))))))))))))))))))))))))))))))) zt) (fun s hs => Exists.intro true (And.intro h hs))
  replace h := ite_f b13 h
  obtain ⟨r_14, e15, h⟩ := bd_inv h
  exact T_regJD 26 (hl 26 [(10, (zd (I ((b_1.length : Nat) : Int)))), (12, (zd (B false))), (15, (zd (I r_11))), (17, (zd (B false))), (20, (zd (.sl 1 (r_14.map elB)))), (21, (zd (.str r_14))), (23, (zd (.str b_1))), (25, (zd (B false)))]) [] [2, 5, 36] [11] [0, 1, 2, 5, 8] _ _ (by kernel_rfl) (by kernel_rfl) (by kernel_rfl) (zc (z8 (z2 (zc (gd_ff b9) (z1 (zc (gd_ff b9) (z1 (zc (gd_ff b9) (z1 (zc (gd_ff b9) (z1 (zc (gd_ff b9) (z1 (zc (gd_ff b9) (zc (len_s elB b_1) (zc (gd_ff b9) (z2 (zc b9 (z2 (zc (gd_ff b10) (z1 (zc (gd_ff b10) (zc (g_ref02_Check_ret e12) (zc (gd_ff b10) (z2 (zc b10 (z2 (zc (gd_ff b13) (z1 (zc (gd_ff b13) (zc (g_ref02_encode_ret e15) (zc (gd_ff b13) (zc (rfl : r_14.map elB = r_14.map elB) (zc (gd_ff b13) (z1 (zc (gd_ff b13) (zc (rfl : b_1.map elB = b_1.map elB) (zc (gd_ff b13) (z2 (zc b13 zt))))))))))))))))))))))))))))))))))))))) zt) (fun s hs => Exists.intro (!(r_14 == b_1)) (And.intro h hs))
  obtain ⟨rfl, rfl, hlk⟩ := CoR_pan hR
  replace h := hz6 rfl
  obtain rfl := some_inv h
  exact (show _ ∧ _ from ⟨rfl, ⟨_, rfl, lk3 ((after_lk (by kernel_rfl) rfl).trans (by rw [hlk 0 (by decide)]; kernel_rfl)) ((after_lk (by kernel_rfl) rfl).trans (by rw [hlk 1 (by decide)]; kernel_rfl)) ((after_lk (by kernel_rfl) rfl).trans (by rw [hlk 2 (by decide)]; kernel_rfl))⟩⟩)

end Go.Proofs.YtimalbkjflfdoaaDoor
