/-
  Texts that belong together, one behind the other; what each of them proves, and under which conditions, its own heading says.
-/
import Derived.Test.YtimalbkjflfdoaaDoorRows
import Derived.RecoverIn
import Derived.RangeFuncLeaves
import Derived.Test.YtimalbkjflfdoaaDoorKc
/-
  Go functions as partial functions, printed by auto.py: what each returns when its partial function has a value. Conditions: those of each theorem.
-/
namespace Go.Proofs.YtimalbkjflfdoaaDoor
open Go.DL
set_option maxRecDepth 100000
set_option maxHeartbeats 4000000
set_option linter.unusedVariables false
set_option linter.unusedSimpArgs false
theorem g__codec_reader_value_s_ret {rc : (Reader) → (Int) → Option ((Val × Reader) ⊕ Unit)} (hrc : ∀ {r_1 : Reader} {depth_2 : Int} {r : (Val × Reader) ⊕ Unit}, rc r_1 depth_2 = some r → CT Tryd.prog 32 4 [(rf 3 0), (di depth_2)] [(0, (.obj (tabP Tryd.prog))), (1, (.obj (errP 1))), (2, (.obj (errP 2))), (3, (.var [(.dat (.sl 1 (r_1.rest.map elB)))]))] (CoR 3 ghosts (fun x => ((.agg (qVal x.1)), [(0, (.obj (tabP Tryd.prog))), (1, (.obj (errP 1))), (2, (.obj (errP 2))), (3, (.var [(.dat (.sl 1 (x.2.rest.map elB)))]))])) (.iface 29 (.int .i64 20)) r)) {r_1 : Reader} {depth_2 : Int} {r : (Val × Reader) ⊕ Unit} (h : g__codec_reader_value_s rc r_1 depth_2 = some r) : CT Tryd.prog 32 4 [(rf 3 0), (di depth_2)] [(0, (.obj (tabP Tryd.prog))), (1, (.obj (errP 1))), (2, (.obj (errP 2))), (3, (.var [(.dat (.sl 1 (r_1.rest.map elB)))]))] (CoR 3 ghosts (fun x => ((.agg (qVal x.1)), [(0, (.obj (tabP Tryd.prog))), (1, (.obj (errP 1))), (2, (.obj (errP 2))), (3, (.var [(.dat (.sl 1 (x.2.rest.map elB)))]))])) (.iface 29 (.int .i64 20)) r) := by
  refine CT.of_T Tryd.func32 (by kernel_rfl) rfl ?_
  refine T_turn [] [0, 1] [] (mk 118 [(0, (rf 3 0)), (1, (di depth_2))] [(0, (.obj (tabP Tryd.prog))), (1, (.obj (errP 1))), (2, (.obj (errP 2))), (3, (.var [(.dat (.sl 1 (r_1.rest.map elB)))]))]) (by kernel_rfl) ?_
  refine T_reg [] [0, 1, 4] [] (mk 118 [(0, (rf 3 0)), (1, (di depth_2)), (4, (rf 8 0))] [(8, (.var [(.dat (I 0)), (.dat (I 0)), (.dat (.str ([] : List UInt8))), (.dat nilS), (.dat nilS)])), (0, (.obj (tabP Tryd.prog))), (1, (.obj (errP 1))), (2, (.obj (errP 2))), (3, (.var [(.dat (.sl 1 (r_1.rest.map elB)))]))]) _ (by kernel_rfl) (z2 zt) ?_
  refine T_seq (T_parts ?_)
  refine TL_part 7 (hl 6 [(5, (zd (I ((r_1.rest.length : Nat) : Int))))]) (mk 118 [(0, (rf 3 0)), (1, (di depth_2)), (4, (rf 8 0)), (7, (rf 3 0)), (8, (rf 3 0)), (9, (rf 3 0)), (10, (rf 3 0)), (11, (dt (.sl 1 (r_1.rest.map elB)))), (12, (di ((r_1.rest.length : Nat) : Int))), (13, (db (((r_1.rest.length : Nat) : Int) == 0)))] [(8, (.var [(.dat (I 0)), (.dat (I 0)), (.dat (.str ([] : List UInt8))), (.dat nilS), (.dat nilS)])), (0, (.obj (tabP Tryd.prog))), (1, (.obj (errP 1))), (2, (.obj (errP 2))), (3, (.var [(.dat (.sl 1 (r_1.rest.map elB)))]))]) _ (by kernel_rfl) (z8 (z3 (zc (len_s elB r_1.rest) (z2 zt)))) rfl ?_
  refine TL_inlineP 122 33 [] Tryd.f33 _ rfl rfl (by kernel_rfl) Tryd.func33 rfl rfl (by decide) ?_
  refine T_turn [] [0, 1] [] (mk 6 [(0, (rf 3 0)), (1, (db (((r_1.rest.length : Nat) : Int) == 0)))] [(8, (.var [(.dat (I 0)), (.dat (I 0)), (.dat (.str ([] : List UInt8))), (.dat nilS), (.dat nilS)])), (0, (.obj (tabP Tryd.prog))), (1, (.obj (errP 1))), (2, (.obj (errP 2))), (3, (.var [(.dat (.sl 1 (r_1.rest.map elB)))]))]) (by kernel_rfl) ?_
  refine T_reg [] [4] [] (mk 6 [(4, (db (((r_1.rest.length : Nat) : Int) == 0)))] [(8, (.var [(.dat (I 0)), (.dat (I 0)), (.dat (.str ([] : List UInt8))), (.dat nilS), (.dat nilS)])), (0, (.obj (tabP Tryd.prog))), (1, (.obj (errP 1))), (2, (.obj (errP 2))), (3, (.var [(.dat (.sl 1 (r_1.rest.map elB)))]))]) _ (by kernel_rfl) (z2 zt) ?_
  refine T_cond (((r_1.rest.length : Nat) : Int) == 0) (by kernel_rfl) (fun b3 => ?_) (fun b3 => ?_)
  replace h := ite_t b3 h
  refine T_parts ?_
  refine TL_part 1 [] (mk 6 [(4, (db (((r_1.rest.length : Nat) : Int) == 0))), (5, (dt (.iface 29 (I 20))))] [(8, (.var [(.dat (I 0)), (.dat (I 0)), (.dat (.str ([] : List UInt8))), (.dat nilS), (.dat nilS)])), (0, (.obj (tabP Tryd.prog))), (1, (.obj (errP 1))), (2, (.obj (errP 2))), (3, (.var [(.dat (.sl 1 (r_1.rest.map elB)))]))]) _ (by kernel_rfl) (z2 zt) rfl ?_
  refine TL_panic 29 (I 20) rfl rfl (by kernel_rfl) ?_
  obtain rfl := some_inv h
  exact (show _ ∧ _ from ⟨rfl, (show _ ∧ _ from ⟨rfl, ⟨_, rfl, lk3 (by kernel_rfl) (by kernel_rfl) (by kernel_rfl)⟩⟩)⟩)
  replace h := ite_f b3 h
  refine T_skip ?_
  refine ⟨[], by kernel_rfl, ?_⟩
  refine TL_turn [] [0, 1, 4, 14] [] (mk 118 [(0, (rf 3 0)), (1, (di depth_2)), (4, (rf 8 0)), (14, (.tup []))] [(8, (.var [(.dat (I 0)), (.dat (I 0)), (.dat (.str ([] : List UInt8))), (.dat nilS), (.dat nilS)])), (0, (.obj (tabP Tryd.prog))), (1, (.obj (errP 1))), (2, (.obj (errP 2))), (3, (.var [(.dat (.sl 1 (r_1.rest.map elB)))]))]) (by kernel_rfl) ?_
  refine TL_nilQ ?_
  refine T_turn [] [0, 1, 4] [] (mk 118 [(0, (rf 3 0)), (1, (di depth_2)), (4, (rf 8 0))] [(8, (.var [(.dat (I 0)), (.dat (I 0)), (.dat (.str ([] : List UInt8))), (.dat nilS), (.dat nilS)])), (0, (.obj (tabP Tryd.prog))), (1, (.obj (errP 1))), (2, (.obj (errP 2))), (3, (.var [(.dat (.sl 1 (r_1.rest.map elB)))]))]) (by kernel_rfl) ?_
  obtain ⟨x_4, e5, e6, e7, h⟩ := gn_inv elB h
  refine T_reg (hl 5 [(4, (zd (.int .u8 ((x_4.toNat : Nat) : Int))))]) [0, 1, 4, 5] [] (mk 118 [(0, (rf 3 0)), (1, (di depth_2)), (4, (rf 8 0)), (5, (dt (.int .u8 ((x_4.toNat : Nat) : Int))))] [(8, (.var [(.dat (I 0)), (.dat (I 0)), (.dat (.str ([] : List UInt8))), (.dat nilS), (.dat nilS)])), (0, (.obj (tabP Tryd.prog))), (1, (.obj (errP 1))), (2, (.obj (errP 2))), (3, (.var [(.dat (.sl 1 (r_1.rest.map elB)))]))]) _ (by kernel_rfl) (z8 (z1 (zc e5 (z4 zt)))) ?_
  refine T_seq ?_
  refine T_seqJ (α := Bool) (fun (v_8 : Bool) => (mk 118 [(0, (rf 3 0)), (1, (di depth_2)), (4, (rf 8 0)), (5, (dt (.int .u8 ((x_4.toNat : Nat) : Int)))), (26, (db (v_8)))] [(0, (.obj (tabP Tryd.prog))), (1, (.obj (errP 1))), (2, (.obj (errP 2))), (3, (.var [(.dat (.sl 1 (r_1.rest.map elB)))])), (8, (.var [(.dat (I 0)), (.dat (I 0)), (.dat (.str ([] : List UInt8))), (.dat nilS), (.dat nilS)]))])) (fun (v_8 : Bool) => g__codec_reader_value_s_j1 r_1 x_4 depth_2 rc v_8 = some r) (fun v_8 h => ?_) ?_
  refine T_cond (v_8) (by kernel_rfl) (fun b9 => ?_) (fun b9 => ?_)
  replace h := ite_t b9 h
  refine T_seq (T_parts ?_)
  refine TL_part 1 [] (mk 118 [(0, (rf 3 0)), (1, (di depth_2)), (4, (rf 8 0)), (5, (dt (.int .u8 ((x_4.toNat : Nat) : Int)))), (26, (db (v_8))), (27, (rf 3 0))] [(0, (.obj (tabP Tryd.prog))), (1, (.obj (errP 1))), (2, (.obj (errP 2))), (3, (.var [(.dat (.sl 1 (r_1.rest.map elB)))])), (8, (.var [(.dat (I 0)), (.dat (I 0)), (.dat (.str ([] : List UInt8))), (.dat nilS), (.dat nilS)]))]) _ (by kernel_rfl) (z2 zt) rfl ?_
  refine TL_inlineP 122 49 [] Tryd.f49 _ rfl rfl (by kernel_rfl) Tryd.func49 rfl rfl (by decide) ?_
  refine T_turn [] [0] [] (mk 38 [(0, (rf 3 0))] [(0, (.obj (tabP Tryd.prog))), (1, (.obj (errP 1))), (2, (.obj (errP 2))), (3, (.var [(.dat (.sl 1 (r_1.rest.map elB)))])), (8, (.var [(.dat (I 0)), (.dat (I 0)), (.dat (.str ([] : List UInt8))), (.dat nilS), (.dat nilS)]))]) (by kernel_rfl) ?_
  refine T_reg [] [0] [] (mk 38 [(0, (rf 3 0))] [(0, (.obj (tabP Tryd.prog))), (1, (.obj (errP 1))), (2, (.obj (errP 2))), (3, (.var [(.dat (.sl 1 (r_1.rest.map elB)))])), (8, (.var [(.dat (I 0)), (.dat (I 0)), (.dat (.str ([] : List UInt8))), (.dat nilS), (.dat nilS)]))]) _ (by kernel_rfl) (z2 zt) ?_
  refine T_seq (T_parts ?_)
  refine TL_part 1 [] (mk 38 [(0, (rf 3 0)), (5, (rf 3 0))] [(0, (.obj (tabP Tryd.prog))), (1, (.obj (errP 1))), (2, (.obj (errP 2))), (3, (.var [(.dat (.sl 1 (r_1.rest.map elB)))])), (8, (.var [(.dat (I 0)), (.dat (I 0)), (.dat (.str ([] : List UInt8))), (.dat nilS), (.dat nilS)]))]) _ (by kernel_rfl) (z2 zt) rfl ?_
  refine TL_inlineP 160 50 [] Tryd.f50 _ rfl rfl (by kernel_rfl) Tryd.func50 rfl rfl (by decide) ?_
  refine T_turn [] [0, 1] [] (mk 27 [(0, (rf 3 0)), (1, (dt (.int .u8 58)))] [(0, (.obj (tabP Tryd.prog))), (1, (.obj (errP 1))), (2, (.obj (errP 2))), (3, (.var [(.dat (.sl 1 (r_1.rest.map elB)))])), (8, (.var [(.dat (I 0)), (.dat (I 0)), (.dat (.str ([] : List UInt8))), (.dat nilS), (.dat nilS)]))]) (by kernel_rfl) ?_
  refine T_reg [] [0, 1] [] (mk 27 [(0, (rf 3 0)), (1, (dt (.int .u8 58)))] [(0, (.obj (tabP Tryd.prog))), (1, (.obj (errP 1))), (2, (.obj (errP 2))), (3, (.var [(.dat (.sl 1 (r_1.rest.map elB)))])), (8, (.var [(.dat (I 0)), (.dat (I 0)), (.dat (.str ([] : List UInt8))), (.dat nilS), (.dat nilS)]))]) _ (by kernel_rfl) (z2 zt) ?_
  refine T_seq (T_parts ?_)
  refine TL_part 2 [] (mk 27 [(0, (rf 3 0)), (1, (dt (.int .u8 58))), (8, (rf 3 0)), (9, (dt (.int .u8 58)))] [(0, (.obj (tabP Tryd.prog))), (1, (.obj (errP 1))), (2, (.obj (errP 2))), (3, (.var [(.dat (.sl 1 (r_1.rest.map elB)))])), (8, (.var [(.dat (I 0)), (.dat (I 0)), (.dat (.str ([] : List UInt8))), (.dat nilS), (.dat nilS)]))]) _ (by kernel_rfl) (z4 zt) rfl ?_
  refine TL_inlineP 187 56 [] Tryd.f56 _ rfl rfl (by kernel_rfl) Tryd.func56 rfl rfl (by decide) ?_
  refine T_turn [] [0, 1] [] (mk 40 [(0, (rf 3 0)), (1, (dt (.int .u8 58)))] [(0, (.obj (tabP Tryd.prog))), (1, (.obj (errP 1))), (2, (.obj (errP 2))), (3, (.var [(.dat (.sl 1 (r_1.rest.map elB)))])), (8, (.var [(.dat (I 0)), (.dat (I 0)), (.dat (.str ([] : List UInt8))), (.dat nilS), (.dat nilS)]))]) (by kernel_rfl) ?_
  refine T_reg [] [0, 1] [] (mk 40 [(0, (rf 3 0)), (1, (dt (.int .u8 58)))] [(0, (.obj (tabP Tryd.prog))), (1, (.obj (errP 1))), (2, (.obj (errP 2))), (3, (.var [(.dat (.sl 1 (r_1.rest.map elB)))])), (8, (.var [(.dat (I 0)), (.dat (I 0)), (.dat (.str ([] : List UInt8))), (.dat nilS), (.dat nilS)]))]) _ (by kernel_rfl) (z2 zt) ?_
  obtain ⟨r_10, e11, h⟩ := bd_inv h
  refine T_reg (hl 6 [(5, (zd (I r_10)))]) [0, 5] [] (mk 40 [(0, (rf 3 0)), (5, (di r_10))] [(0, (.obj (tabP Tryd.prog))), (1, (.obj (errP 1))), (2, (.obj (errP 2))), (3, (.var [(.dat (.sl 1 (r_1.rest.map elB)))])), (8, (.var [(.dat (I 0)), (.dat (I 0)), (.dat (.str ([] : List UInt8))), (.dat nilS), (.dat nilS)]))]) _ (by kernel_rfl) (z8 (z3 (zc (g_slices_Index_Lbyte_byte_ret e11) (z2 zt)))) ?_
  rcases Bool.eq_false_or_eq_true (decide (r_10 < 0)) with b12 | b12
  replace h := ite_t b12 h
  refine T_seq (T_parts ?_)
  refine TL_part 7 [zn, zn, zn, zn, zg, zg, (zd (B true))] (mk 40 [(0, (rf 3 0)), (5, (di r_10)), (13, (rf 3 0)), (14, (di r_10)), (15, (db (decide (r_10 < 0)))), (16, (db (decide (r_10 < 0)))), (17, (dt (.tup []))), (18, (dt (.tup []))), (19, (db true))] [(0, (.obj (tabP Tryd.prog))), (1, (.obj (errP 1))), (2, (.obj (errP 2))), (3, (.var [(.dat (.sl 1 (r_1.rest.map elB)))])), (8, (.var [(.dat (I 0)), (.dat (I 0)), (.dat (.str ([] : List UInt8))), (.dat nilS), (.dat nilS)]))]) _ (by kernel_rfl) (z8 (zc (gd_tf b12) (zc (gd_tf b12) (z1 (zc b12 zt))))) rfl ?_
  refine TL_inlineP 227 33 [] Tryd.f33 _ rfl rfl (by kernel_rfl) Tryd.func33 rfl rfl (by decide) ?_
  refine T_turn [] [0, 1] [] (mk 6 [(0, (rf 3 0)), (1, (db true))] [(0, (.obj (tabP Tryd.prog))), (1, (.obj (errP 1))), (2, (.obj (errP 2))), (3, (.var [(.dat (.sl 1 (r_1.rest.map elB)))])), (8, (.var [(.dat (I 0)), (.dat (I 0)), (.dat (.str ([] : List UInt8))), (.dat nilS), (.dat nilS)]))]) (by kernel_rfl) ?_
  refine T_reg [] [4] [] (mk 6 [(4, (db true))] [(0, (.obj (tabP Tryd.prog))), (1, (.obj (errP 1))), (2, (.obj (errP 2))), (3, (.var [(.dat (.sl 1 (r_1.rest.map elB)))])), (8, (.var [(.dat (I 0)), (.dat (I 0)), (.dat (.str ([] : List UInt8))), (.dat nilS), (.dat nilS)]))]) _ (by kernel_rfl) (z2 zt) ?_
  refine T_cond true (by kernel_rfl) (fun _ => ?_) (fun h => absurd (h.symm.trans (rfl : true = true)) (by decide))
  refine T_parts ?_
  refine TL_part 1 [] (mk 6 [(4, (db true)), (5, (dt (.iface 29 (I 20))))] [(0, (.obj (tabP Tryd.prog))), (1, (.obj (errP 1))), (2, (.obj (errP 2))), (3, (.var [(.dat (.sl 1 (r_1.rest.map elB)))])), (8, (.var [(.dat (I 0)), (.dat (I 0)), (.dat (.str ([] : List UInt8))), (.dat nilS), (.dat nilS)]))]) _ (by kernel_rfl) (z2 zt) rfl ?_
  refine TL_panic 29 (I 20) rfl rfl (by kernel_rfl) ?_
  obtain rfl := some_inv h
  exact (show _ ∧ _ from ⟨rfl, (show _ ∧ _ from ⟨rfl, (show _ ∧ _ from ⟨rfl, (show _ ∧ _ from ⟨rfl, (show _ ∧ _ from ⟨rfl, ⟨_, rfl, lk3 (by kernel_rfl) (by kernel_rfl) (by kernel_rfl)⟩⟩)⟩)⟩)⟩)⟩)
  replace h := ite_f b12 h
  refine T_seq (T_parts ?_)
  refine TL_part 7 (hl 7 [(6, (zd (B false)))]) (mk 40 [(0, (rf 3 0)), (5, (di r_10)), (13, (rf 3 0)), (14, (di r_10)), (15, (db (decide (r_10 < 0)))), (16, (db (decide (r_10 < 0)))), (17, (di r_10)), (18, (db (decide (r_10 > 20)))), (19, (db (decide (r_10 > 20))))] [(0, (.obj (tabP Tryd.prog))), (1, (.obj (errP 1))), (2, (.obj (errP 2))), (3, (.var [(.dat (.sl 1 (r_1.rest.map elB)))])), (8, (.var [(.dat (I 0)), (.dat (I 0)), (.dat (.str ([] : List UInt8))), (.dat nilS), (.dat nilS)]))]) _ (by kernel_rfl) (z8 (zc (gd_ff b12) (z1 (zc (gd_ff b12) (z2 (zc b12 zt)))))) rfl ?_
  refine TL_inlineP 227 33 [] Tryd.f33 _ rfl rfl (by kernel_rfl) Tryd.func33 rfl rfl (by decide) ?_
  refine T_turn [] [0, 1] [] (mk 6 [(0, (rf 3 0)), (1, (db (decide (r_10 > 20))))] [(0, (.obj (tabP Tryd.prog))), (1, (.obj (errP 1))), (2, (.obj (errP 2))), (3, (.var [(.dat (.sl 1 (r_1.rest.map elB)))])), (8, (.var [(.dat (I 0)), (.dat (I 0)), (.dat (.str ([] : List UInt8))), (.dat nilS), (.dat nilS)]))]) (by kernel_rfl) ?_
  refine T_reg [] [4] [] (mk 6 [(4, (db (decide (r_10 > 20))))] [(0, (.obj (tabP Tryd.prog))), (1, (.obj (errP 1))), (2, (.obj (errP 2))), (3, (.var [(.dat (.sl 1 (r_1.rest.map elB)))])), (8, (.var [(.dat (I 0)), (.dat (I 0)), (.dat (.str ([] : List UInt8))), (.dat nilS), (.dat nilS)]))]) _ (by kernel_rfl) (z2 zt) ?_
  refine T_cond (decide (r_10 > 20)) (by kernel_rfl) (fun b13 => ?_) (fun b13 => ?_)
  replace h := ite_t b13 h
  refine T_parts ?_
  refine TL_part 1 [] (mk 6 [(4, (db (decide (r_10 > 20)))), (5, (dt (.iface 29 (I 20))))] [(0, (.obj (tabP Tryd.prog))), (1, (.obj (errP 1))), (2, (.obj (errP 2))), (3, (.var [(.dat (.sl 1 (r_1.rest.map elB)))])), (8, (.var [(.dat (I 0)), (.dat (I 0)), (.dat (.str ([] : List UInt8))), (.dat nilS), (.dat nilS)]))]) _ (by kernel_rfl) (z2 zt) rfl ?_
  refine TL_panic 29 (I 20) rfl rfl (by kernel_rfl) ?_
  obtain rfl := some_inv h
  exact (show _ ∧ _ from ⟨rfl, (show _ ∧ _ from ⟨rfl, (show _ ∧ _ from ⟨rfl, (show _ ∧ _ from ⟨rfl, (show _ ∧ _ from ⟨rfl, ⟨_, rfl, lk3 (by kernel_rfl) (by kernel_rfl) (by kernel_rfl)⟩⟩)⟩)⟩)⟩)⟩)
  replace h := ite_f b13 h
  refine T_skip ?_
  refine ⟨[], by kernel_rfl, ?_⟩
  refine TL_turn [] [0, 5, 20] [] (mk 40 [(0, (rf 3 0)), (5, (di r_10)), (20, (.tup []))] [(0, (.obj (tabP Tryd.prog))), (1, (.obj (errP 1))), (2, (.obj (errP 2))), (3, (.var [(.dat (.sl 1 (r_1.rest.map elB)))])), (8, (.var [(.dat (I 0)), (.dat (I 0)), (.dat (.str ([] : List UInt8))), (.dat nilS), (.dat nilS)]))]) (by kernel_rfl) ?_
  refine TL_nilQ ?_
  refine T_turn [] [0, 5] [] (mk 40 [(0, (rf 3 0)), (5, (di r_10))] [(0, (.obj (tabP Tryd.prog))), (1, (.obj (errP 1))), (2, (.obj (errP 2))), (3, (.var [(.dat (.sl 1 (r_1.rest.map elB)))])), (8, (.var [(.dat (I 0)), (.dat (I 0)), (.dat (.str ([] : List UInt8))), (.dat nilS), (.dat nilS)]))]) (by kernel_rfl) ?_
  obtain ⟨s_14, e15, h⟩ := sbm_inv 1 elB h
  refine T_reg (hl 7 [(6, (zd (.sl 1 (s_14.map elB))))]) [0, 5, 6] [] (mk 40 [(0, (rf 3 0)), (5, (di r_10)), (6, (dt (.sl 1 (s_14.map elB))))] [(0, (.obj (tabP Tryd.prog))), (1, (.obj (errP 1))), (2, (.obj (errP 2))), (3, (.var [(.dat (.sl 1 (r_1.rest.map elB)))])), (8, (.var [(.dat (I 0)), (.dat (I 0)), (.dat (.str ([] : List UInt8))), (.dat nilS), (.dat nilS)]))]) _ (by kernel_rfl) (z8 (z5 (zc e15 (z2 zt)))) ?_
  obtain ⟨c16, h⟩ := ckI_inv h
  obtain ⟨s_17, e18, h⟩ := sb_inv 1 elB h
  refine T_reg (hl 8 [(6, (zd (I (r_10 + 1)))), (7, (zd (.sl 1 (s_17.map elB))))]) [6] [] (mk 40 [(6, (dt (.sl 1 (s_14.map elB))))] [(0, (.obj (tabP Tryd.prog))), (1, (.obj (errP 1))), (2, (.obj (errP 2))), (3, (.var [(.dat (.sl 1 (s_17.map elB)))])), (8, (.var [(.dat (I 0)), (.dat (I 0)), (.dat (.str ([] : List UInt8))), (.dat nilS), (.dat nilS)]))]) _ (by kernel_rfl) (z8 (z5 (zc c16 (z1 (zc e18 (z6 zt)))))) ?_
  refine T_reg [zn, (zd (.str s_14))] [4] [] (mk 40 [(4, (dt (.str s_14)))] [(0, (.obj (tabP Tryd.prog))), (1, (.obj (errP 1))), (2, (.obj (errP 2))), (3, (.var [(.dat (.sl 1 (s_17.map elB)))])), (8, (.var [(.dat (I 0)), (.dat (I 0)), (.dat (.str ([] : List UInt8))), (.dat nilS), (.dat nilS)]))]) _ (by kernel_rfl) (z3 (zc (rfl : s_14.map elB = s_14.map elB) (z2 zt))) ?_
  refine T_ret ?_
  refine ⟨[(dt (.str s_14))], by kernel_rfl, ?_⟩
  refine TL_turn [] [0, 10] [] (mk 27 [(0, (rf 3 0)), (10, (dt (.str s_14)))] [(0, (.obj (tabP Tryd.prog))), (1, (.obj (errP 1))), (2, (.obj (errP 2))), (3, (.var [(.dat (.sl 1 (s_17.map elB)))])), (8, (.var [(.dat (I 0)), (.dat (I 0)), (.dat (.str ([] : List UInt8))), (.dat nilS), (.dat nilS)]))]) (by kernel_rfl) ?_
  refine TL_part 1 [] (mk 27 [(0, (rf 3 0)), (5, (dt (.str s_14))), (10, (dt (.str s_14)))] [(0, (.obj (tabP Tryd.prog))), (1, (.obj (errP 1))), (2, (.obj (errP 2))), (3, (.var [(.dat (.sl 1 (s_17.map elB)))])), (8, (.var [(.dat (I 0)), (.dat (I 0)), (.dat (.str ([] : List UInt8))), (.dat nilS), (.dat nilS)]))]) _ (by kernel_rfl) (z2 zt) rfl ?_
  refine TL_nilQ ?_
  refine T_turn [] [0, 5] [] (mk 27 [(0, (rf 3 0)), (5, (dt (.str s_14)))] [(0, (.obj (tabP Tryd.prog))), (1, (.obj (errP 1))), (2, (.obj (errP 2))), (3, (.var [(.dat (.sl 1 (s_17.map elB)))])), (8, (.var [(.dat (I 0)), (.dat (I 0)), (.dat (.str ([] : List UInt8))), (.dat nilS), (.dat nilS)]))]) (by kernel_rfl) ?_
  refine T_seqJ (α := (Int) ⊕ (Unit)) (fun v => match v with | (.inl n_19) => (mk 27 [(0, (rf 3 0)), (5, (dt (.str s_14))), (6, (di n_19)), (7, (dt (.con .nilIface)))] [(0, (.obj (tabP Tryd.prog))), (1, (.obj (errP 1))), (2, (.obj (errP 2))), (3, (.var [(.dat (.sl 1 (s_17.map elB)))])), (8, (.var [(.dat (I 0)), (.dat (I 0)), (.dat (.str ([] : List UInt8))), (.dat nilS), (.dat nilS)]))]) | (.inr _) => (mk 27 [(0, (rf 3 0)), (5, (dt (.str s_14))), (6, (dt .any)), (7, (dt (.iface 100 .any)))] [(0, (.obj (tabP Tryd.prog))), (1, (.obj (errP 1))), (2, (.obj (errP 2))), (3, (.var [(.dat (.sl 1 (s_17.map elB)))])), (8, (.var [(.dat (I 0)), (.dat (I 0)), (.dat (.str ([] : List UInt8))), (.dat nilS), (.dat nilS)]))])) (fun v => match v with | (.inl n_19) => g__codec_reader_value_s_j2 s_14 s_17 n_19 = some r | (.inr _) => g__codec_reader_value_s_j3 s_14 s_17 = some r) (fun v h => ?_) ?_
  rcases v with v | v
  revert h; revert v; intro n_19 h
  refine T_seq (T_parts ?_)
  refine TL_part 2 [] (mk 27 [(0, (rf 3 0)), (5, (dt (.str s_14))), (6, (di n_19)), (7, (dt (.con .nilIface))), (16, (rf 3 0)), (17, (dt (.con .nilIface)))] [(0, (.obj (tabP Tryd.prog))), (1, (.obj (errP 1))), (2, (.obj (errP 2))), (3, (.var [(.dat (.sl 1 (s_17.map elB)))])), (8, (.var [(.dat (I 0)), (.dat (I 0)), (.dat (.str ([] : List UInt8))), (.dat nilS), (.dat nilS)]))]) _ (by kernel_rfl) (z4 zt) rfl ?_
  refine TL_neNil 84 84 18 false rfl rfl rfl (by kernel_rfl) (.inr ⟨rfl, by kernel_rfl⟩) ?_
  refine TL_turn [] [5, 6, 16, 18] [] (mk 27 [(5, (dt (.str s_14))), (6, (di n_19)), (16, (rf 3 0)), (18, (db false))] [(0, (.obj (tabP Tryd.prog))), (1, (.obj (errP 1))), (2, (.obj (errP 2))), (3, (.var [(.dat (.sl 1 (s_17.map elB)))])), (8, (.var [(.dat (I 0)), (.dat (I 0)), (.dat (.str ([] : List UInt8))), (.dat nilS), (.dat nilS)]))]) (by kernel_rfl) ?_
  refine TL_part 2 [] (mk 27 [(5, (dt (.str s_14))), (6, (di n_19)), (16, (rf 3 0)), (18, (db false)), (19, (db false)), (20, (di n_19))] [(0, (.obj (tabP Tryd.prog))), (1, (.obj (errP 1))), (2, (.obj (errP 2))), (3, (.var [(.dat (.sl 1 (s_17.map elB)))])), (8, (.var [(.dat (I 0)), (.dat (I 0)), (.dat (.str ([] : List UInt8))), (.dat nilS), (.dat nilS)]))]) _ (by kernel_rfl) (z2 (zc (gd_ff (rfl : false = false)) (z1 zt))) rfl ?_
  refine TL_guard (p := (false == false) = true) (by kernel_rfl) (gd_ff (rfl : false = false)) ?_
  obtain ⟨c20, h⟩ := ckI_in h
  refine TL_fmtInt Tryd.lformat 21 0 n_19 rfl rfl rfl (by kernel_rfl) (by kernel_rfl) (by kernel_rfl) c20 (by kernel_rfl) ?_
  refine TL_turn [] [5, 6, 16, 19, 21] [] (mk 27 [(5, (dt (.str s_14))), (6, (di n_19)), (16, (rf 3 0)), (19, (db false)), (21, (dt (.str (Lib.itoa n_19))))] [(0, (.obj (tabP Tryd.prog))), (1, (.obj (errP 1))), (2, (.obj (errP 2))), (3, (.var [(.dat (.sl 1 (s_17.map elB)))])), (8, (.var [(.dat (I 0)), (.dat (I 0)), (.dat (.str ([] : List UInt8))), (.dat nilS), (.dat nilS)]))]) (by kernel_rfl) ?_
  refine TL_part 3 [zn, zn, (zd (B false))] (mk 27 [(5, (dt (.str s_14))), (6, (di n_19)), (16, (rf 3 0)), (19, (db false)), (21, (dt (.str (Lib.itoa n_19)))), (22, (dt (.str s_14))), (23, (db (!((Lib.itoa n_19) == s_14)))), (24, (db (!((Lib.itoa n_19) == s_14))))] [(0, (.obj (tabP Tryd.prog))), (1, (.obj (errP 1))), (2, (.obj (errP 2))), (3, (.var [(.dat (.sl 1 (s_17.map elB)))])), (8, (.var [(.dat (I 0)), (.dat (I 0)), (.dat (.str ([] : List UInt8))), (.dat nilS), (.dat nilS)]))]) _ (by kernel_rfl) (zc (gd_ff (rfl : false = false)) (z1 (zc (gd_ff (rfl : false = false)) (z2 (zc (rfl : false = false) zt))))) rfl ?_
  refine TL_inlineP 187 33 [] Tryd.f33 _ rfl rfl (by kernel_rfl) Tryd.func33 rfl rfl (by decide) ?_
  refine T_turn [] [0, 1] [] (mk 6 [(0, (rf 3 0)), (1, (db (!((Lib.itoa n_19) == s_14))))] [(0, (.obj (tabP Tryd.prog))), (1, (.obj (errP 1))), (2, (.obj (errP 2))), (3, (.var [(.dat (.sl 1 (s_17.map elB)))])), (8, (.var [(.dat (I 0)), (.dat (I 0)), (.dat (.str ([] : List UInt8))), (.dat nilS), (.dat nilS)]))]) (by kernel_rfl) ?_
  refine T_reg [] [4] [] (mk 6 [(4, (db (!((Lib.itoa n_19) == s_14))))] [(0, (.obj (tabP Tryd.prog))), (1, (.obj (errP 1))), (2, (.obj (errP 2))), (3, (.var [(.dat (.sl 1 (s_17.map elB)))])), (8, (.var [(.dat (I 0)), (.dat (I 0)), (.dat (.str ([] : List UInt8))), (.dat nilS), (.dat nilS)]))]) _ (by kernel_rfl) (z2 zt) ?_
  refine T_cond (!((Lib.itoa n_19) == s_14)) (by kernel_rfl) (fun b21 => ?_) (fun b21 => ?_)
  replace h := ite_t b21 h
  refine T_parts ?_
  refine TL_part 1 [] (mk 6 [(4, (db (!((Lib.itoa n_19) == s_14)))), (5, (dt (.iface 29 (I 20))))] [(0, (.obj (tabP Tryd.prog))), (1, (.obj (errP 1))), (2, (.obj (errP 2))), (3, (.var [(.dat (.sl 1 (s_17.map elB)))])), (8, (.var [(.dat (I 0)), (.dat (I 0)), (.dat (.str ([] : List UInt8))), (.dat nilS), (.dat nilS)]))]) _ (by kernel_rfl) (z2 zt) rfl ?_
  refine TL_panic 29 (I 20) rfl rfl (by kernel_rfl) ?_
  obtain rfl := some_inv h
  exact (show _ ∧ _ from ⟨rfl, (show _ ∧ _ from ⟨rfl, (show _ ∧ _ from ⟨rfl, (show _ ∧ _ from ⟨rfl, ⟨_, rfl, lk3 (by kernel_rfl) (by kernel_rfl) (by kernel_rfl)⟩⟩)⟩)⟩)⟩)
  replace h := ite_f b21 h
  refine T_skip ?_
  refine ⟨[], by kernel_rfl, ?_⟩
  refine TL_turn [] [6, 25] [] (mk 27 [(6, (di n_19)), (25, (.tup []))] [(0, (.obj (tabP Tryd.prog))), (1, (.obj (errP 1))), (2, (.obj (errP 2))), (3, (.var [(.dat (.sl 1 (s_17.map elB)))])), (8, (.var [(.dat (I 0)), (.dat (I 0)), (.dat (.str ([] : List UInt8))), (.dat nilS), (.dat nilS)]))]) (by kernel_rfl) ?_
  refine TL_nilQ ?_
  refine T_turn [] [6] [] (mk 27 [(6, (di n_19))] [(0, (.obj (tabP Tryd.prog))), (1, (.obj (errP 1))), (2, (.obj (errP 2))), (3, (.var [(.dat (.sl 1 (s_17.map elB)))])), (8, (.var [(.dat (I 0)), (.dat (I 0)), (.dat (.str ([] : List UInt8))), (.dat nilS), (.dat nilS)]))]) (by kernel_rfl) ?_
  refine T_reg [] [4] [] (mk 27 [(4, (di n_19))] [(0, (.obj (tabP Tryd.prog))), (1, (.obj (errP 1))), (2, (.obj (errP 2))), (3, (.var [(.dat (.sl 1 (s_17.map elB)))])), (8, (.var [(.dat (I 0)), (.dat (I 0)), (.dat (.str ([] : List UInt8))), (.dat nilS), (.dat nilS)]))]) _ (by kernel_rfl) (z4 zt) ?_
  refine T_ret ?_
  refine ⟨[(di n_19)], by kernel_rfl, ?_⟩
  refine TL_turn [] [0, 6] [] (mk 38 [(0, (rf 3 0)), (6, (di n_19))] [(0, (.obj (tabP Tryd.prog))), (1, (.obj (errP 1))), (2, (.obj (errP 2))), (3, (.var [(.dat (.sl 1 (s_17.map elB)))])), (8, (.var [(.dat (I 0)), (.dat (I 0)), (.dat (.str ([] : List UInt8))), (.dat nilS), (.dat nilS)]))]) (by kernel_rfl) ?_
  refine TL_part 1 [] (mk 38 [(0, (rf 3 0)), (3, (di n_19)), (6, (di n_19))] [(0, (.obj (tabP Tryd.prog))), (1, (.obj (errP 1))), (2, (.obj (errP 2))), (3, (.var [(.dat (.sl 1 (s_17.map elB)))])), (8, (.var [(.dat (I 0)), (.dat (I 0)), (.dat (.str ([] : List UInt8))), (.dat nilS), (.dat nilS)]))]) _ (by kernel_rfl) (z2 zt) rfl ?_
  refine TL_nilQ ?_
  refine T_turn [] [0, 3] [] (mk 38 [(0, (rf 3 0)), (3, (di n_19))] [(0, (.obj (tabP Tryd.prog))), (1, (.obj (errP 1))), (2, (.obj (errP 2))), (3, (.var [(.dat (.sl 1 (s_17.map elB)))])), (8, (.var [(.dat (I 0)), (.dat (I 0)), (.dat (.str ([] : List UInt8))), (.dat nilS), (.dat nilS)]))]) (by kernel_rfl) ?_
  rcases Bool.eq_false_or_eq_true (decide (n_19 < 0)) with b22 | b22
  replace h := ite_t b22 h
  refine T_seq (T_parts ?_)
  refine TL_part 12 [zn, zn, zn, zn, zg, zg, zg, zg, zg, zg, zg, (zd (B true))] (mk 38 [(0, (rf 3 0)), (3, (di n_19)), (7, (rf 3 0)), (8, (di n_19)), (9, (db (decide (n_19 < 0)))), (10, (db (decide (n_19 < 0)))), (11, (dt (.tup []))), (12, (dt (.tup []))), (13, (dt (.tup []))), (14, (dt (.tup []))), (15, (dt (.tup []))), (16, (dt (.tup []))), (17, (dt (.tup []))), (18, (db true))] [(0, (.obj (tabP Tryd.prog))), (1, (.obj (errP 1))), (2, (.obj (errP 2))), (3, (.var [(.dat (.sl 1 (s_17.map elB)))])), (8, (.var [(.dat (I 0)), (.dat (I 0)), (.dat (.str ([] : List UInt8))), (.dat nilS), (.dat nilS)]))]) _ (by kernel_rfl) (z8 (zc (gd_tf b22) (zc (gd_tf b22) (zc (gd_tf b22) (zc (gd_tf b22) (zc (gd_tf b22) (zc (gd_tf b22) (zc (gd_tf b22) (z1 (zc b22 zt)))))))))) rfl ?_
  refine TL_inlineP 160 33 [] Tryd.f33 _ rfl rfl (by kernel_rfl) Tryd.func33 rfl rfl (by decide) ?_
  refine T_turn [] [0, 1] [] (mk 6 [(0, (rf 3 0)), (1, (db true))] [(0, (.obj (tabP Tryd.prog))), (1, (.obj (errP 1))), (2, (.obj (errP 2))), (3, (.var [(.dat (.sl 1 (s_17.map elB)))])), (8, (.var [(.dat (I 0)), (.dat (I 0)), (.dat (.str ([] : List UInt8))), (.dat nilS), (.dat nilS)]))]) (by kernel_rfl) ?_
  refine T_reg [] [4] [] (mk 6 [(4, (db true))] [(0, (.obj (tabP Tryd.prog))), (1, (.obj (errP 1))), (2, (.obj (errP 2))), (3, (.var [(.dat (.sl 1 (s_17.map elB)))])), (8, (.var [(.dat (I 0)), (.dat (I 0)), (.dat (.str ([] : List UInt8))), (.dat nilS), (.dat nilS)]))]) _ (by kernel_rfl) (z2 zt) ?_
  refine T_cond true (by kernel_rfl) (fun _ => ?_) (fun h => absurd (h.symm.trans (rfl : true = true)) (by decide))
  refine T_parts ?_
  refine TL_part 1 [] (mk 6 [(4, (db true)), (5, (dt (.iface 29 (I 20))))] [(0, (.obj (tabP Tryd.prog))), (1, (.obj (errP 1))), (2, (.obj (errP 2))), (3, (.var [(.dat (.sl 1 (s_17.map elB)))])), (8, (.var [(.dat (I 0)), (.dat (I 0)), (.dat (.str ([] : List UInt8))), (.dat nilS), (.dat nilS)]))]) _ (by kernel_rfl) (z2 zt) rfl ?_
  refine TL_panic 29 (I 20) rfl rfl (by kernel_rfl) ?_
  obtain rfl := some_inv h
  exact (show _ ∧ _ from ⟨rfl, (show _ ∧ _ from ⟨rfl, (show _ ∧ _ from ⟨rfl, ⟨_, rfl, lk3 (by kernel_rfl) (by kernel_rfl) (by kernel_rfl)⟩⟩)⟩)⟩)
  replace h := ite_f b22 h
  refine T_seq (T_parts ?_)
  refine TL_part 12 (hl 12 [(9, (zd (I ((s_17.length : Nat) : Int)))), (11, (zd (B false)))]) (mk 38 [(0, (rf 3 0)), (3, (di n_19)), (7, (rf 3 0)), (8, (di n_19)), (9, (db (decide (n_19 < 0)))), (10, (db (decide (n_19 < 0)))), (11, (di n_19)), (12, (rf 3 0)), (13, (rf 3 0)), (14, (rf 3 0)), (15, (dt (.sl 1 (s_17.map elB)))), (16, (di ((s_17.length : Nat) : Int))), (17, (db (decide (n_19 > ((s_17.length : Nat) : Int))))), (18, (db (decide (n_19 > ((s_17.length : Nat) : Int)))))] [(0, (.obj (tabP Tryd.prog))), (1, (.obj (errP 1))), (2, (.obj (errP 2))), (3, (.var [(.dat (.sl 1 (s_17.map elB)))])), (8, (.var [(.dat (I 0)), (.dat (I 0)), (.dat (.str ([] : List UInt8))), (.dat nilS), (.dat nilS)]))]) _ (by kernel_rfl) (z8 (zc (gd_ff b22) (z1 (zc (gd_ff b22) (z1 (zc (gd_ff b22) (z1 (zc (gd_ff b22) (z1 (zc (gd_ff b22) (z1 (zc (gd_ff b22) (zc (len_s elB s_17) (zc (gd_ff b22) (z2 (zc b22 zt)))))))))))))))) rfl ?_
  refine TL_inlineP 160 33 [] Tryd.f33 _ rfl rfl (by kernel_rfl) Tryd.func33 rfl rfl (by decide) ?_
  refine T_turn [] [0, 1] [] (mk 6 [(0, (rf 3 0)), (1, (db (decide (n_19 > ((s_17.length : Nat) : Int)))))] [(0, (.obj (tabP Tryd.prog))), (1, (.obj (errP 1))), (2, (.obj (errP 2))), (3, (.var [(.dat (.sl 1 (s_17.map elB)))])), (8, (.var [(.dat (I 0)), (.dat (I 0)), (.dat (.str ([] : List UInt8))), (.dat nilS), (.dat nilS)]))]) (by kernel_rfl) ?_
  refine T_reg [] [4] [] (mk 6 [(4, (db (decide (n_19 > ((s_17.length : Nat) : Int)))))] [(0, (.obj (tabP Tryd.prog))), (1, (.obj (errP 1))), (2, (.obj (errP 2))), (3, (.var [(.dat (.sl 1 (s_17.map elB)))])), (8, (.var [(.dat (I 0)), (.dat (I 0)), (.dat (.str ([] : List UInt8))), (.dat nilS), (.dat nilS)]))]) _ (by kernel_rfl) (z2 zt) ?_
  refine T_cond (decide (n_19 > ((s_17.length : Nat) : Int))) (by kernel_rfl) (fun b23 => ?_) (fun b23 => ?_)
  replace h := ite_t b23 h
  refine T_parts ?_
  refine TL_part 1 [] (mk 6 [(4, (db (decide (n_19 > ((s_17.length : Nat) : Int))))), (5, (dt (.iface 29 (I 20))))] [(0, (.obj (tabP Tryd.prog))), (1, (.obj (errP 1))), (2, (.obj (errP 2))), (3, (.var [(.dat (.sl 1 (s_17.map elB)))])), (8, (.var [(.dat (I 0)), (.dat (I 0)), (.dat (.str ([] : List UInt8))), (.dat nilS), (.dat nilS)]))]) _ (by kernel_rfl) (z2 zt) rfl ?_
  refine TL_panic 29 (I 20) rfl rfl (by kernel_rfl) ?_
  obtain rfl := some_inv h
  exact (show _ ∧ _ from ⟨rfl, (show _ ∧ _ from ⟨rfl, (show _ ∧ _ from ⟨rfl, ⟨_, rfl, lk3 (by kernel_rfl) (by kernel_rfl) (by kernel_rfl)⟩⟩)⟩)⟩)
  replace h := ite_f b23 h
  refine T_skip ?_
  refine ⟨[], by kernel_rfl, ?_⟩
  refine TL_turn [] [0, 3, 19] [] (mk 38 [(0, (rf 3 0)), (3, (di n_19)), (19, (.tup []))] [(0, (.obj (tabP Tryd.prog))), (1, (.obj (errP 1))), (2, (.obj (errP 2))), (3, (.var [(.dat (.sl 1 (s_17.map elB)))])), (8, (.var [(.dat (I 0)), (.dat (I 0)), (.dat (.str ([] : List UInt8))), (.dat nilS), (.dat nilS)]))]) (by kernel_rfl) ?_
  refine TL_nilQ ?_
  refine T_turn [] [0, 3] [] (mk 38 [(0, (rf 3 0)), (3, (di n_19))] [(0, (.obj (tabP Tryd.prog))), (1, (.obj (errP 1))), (2, (.obj (errP 2))), (3, (.var [(.dat (.sl 1 (s_17.map elB)))])), (8, (.var [(.dat (I 0)), (.dat (I 0)), (.dat (.str ([] : List UInt8))), (.dat nilS), (.dat nilS)]))]) (by kernel_rfl) ?_
  obtain ⟨s_24, e25, h⟩ := sbm_inv 1 elB h
  refine T_reg (hl 7 [(6, (zd (.sl 1 (s_24.map elB))))]) [0, 3, 4] [] (mk 38 [(0, (rf 3 0)), (3, (di n_19)), (4, (dt (.sl 1 (s_24.map elB))))] [(0, (.obj (tabP Tryd.prog))), (1, (.obj (errP 1))), (2, (.obj (errP 2))), (3, (.var [(.dat (.sl 1 (s_17.map elB)))])), (8, (.var [(.dat (I 0)), (.dat (I 0)), (.dat (.str ([] : List UInt8))), (.dat nilS), (.dat nilS)]))]) _ (by kernel_rfl) (z8 (z5 (zc e25 (z2 zt)))) ?_
  obtain ⟨s_26, e27, h⟩ := sb_inv 1 elB h
  refine T_reg (hl 7 [(6, (zd (.sl 1 (s_26.map elB))))]) [4] [] (mk 38 [(4, (dt (.sl 1 (s_24.map elB))))] [(0, (.obj (tabP Tryd.prog))), (1, (.obj (errP 1))), (2, (.obj (errP 2))), (3, (.var [(.dat (.sl 1 (s_26.map elB)))])), (8, (.var [(.dat (I 0)), (.dat (I 0)), (.dat (.str ([] : List UInt8))), (.dat nilS), (.dat nilS)]))]) _ (by kernel_rfl) (z8 (z5 (zc e27 (z6 zt)))) ?_
  refine T_reg [zn, (zd (.str s_24))] [2] [] (mk 38 [(2, (dt (.str s_24)))] [(0, (.obj (tabP Tryd.prog))), (1, (.obj (errP 1))), (2, (.obj (errP 2))), (3, (.var [(.dat (.sl 1 (s_26.map elB)))])), (8, (.var [(.dat (I 0)), (.dat (I 0)), (.dat (.str ([] : List UInt8))), (.dat nilS), (.dat nilS)]))]) _ (by kernel_rfl) (z3 (zc (rfl : s_24.map elB = s_24.map elB) (z2 zt))) ?_
  refine T_ret ?_
  refine ⟨[(dt (.str s_24))], by kernel_rfl, ?_⟩
  refine TL_turn [] [4, 28] [] (mk 118 [(4, (rf 8 0)), (28, (dt (.str s_24)))] [(0, (.obj (tabP Tryd.prog))), (1, (.obj (errP 1))), (2, (.obj (errP 2))), (3, (.var [(.dat (.sl 1 (s_26.map elB)))])), (8, (.var [(.dat (I 0)), (.dat (I 0)), (.dat (.str ([] : List UInt8))), (.dat nilS), (.dat nilS)]))]) (by kernel_rfl) ?_
  refine TL_part 2 [] (mk 118 [(4, (rf 8 0)), (28, (dt (.str s_24))), (29, (.agg [(.dat (I 2)), (.dat (I 0)), (.dat (.str s_24)), (.dat nilS), (.dat nilS)]))] [(0, (.obj (tabP Tryd.prog))), (1, (.obj (errP 1))), (2, (.obj (errP 2))), (3, (.var [(.dat (.sl 1 (s_26.map elB)))])), (8, (.var [(.dat (I 2)), (.dat (I 0)), (.dat (.str s_24)), (.dat nilS), (.dat nilS)]))]) _ (by kernel_rfl) (z4 zt) rfl ?_
  refine TL_nilQ ?_
  refine T_turn [] [4] [] (mk 118 [(4, (rf 8 0))] [(0, (.obj (tabP Tryd.prog))), (1, (.obj (errP 1))), (2, (.obj (errP 2))), (3, (.var [(.dat (.sl 1 (s_26.map elB)))])), (8, (.var [(.dat (I 2)), (.dat (I 0)), (.dat (.str s_24)), (.dat nilS), (.dat nilS)]))]) (by kernel_rfl) ?_
  refine T_arr [.nilC 8 3 5, .nilC 8 4 1, .ice 8] [4] [8] [0, 1, 2, 3] (mk 118 [(4, (dt (.ptr [(I 2), (I 0), (.str s_24), (.sl 5 (([] : List Val).map encVal)), (.sl 1 (([] : List (List UInt8)).map elStr))])))] [(0, (.obj (tabP Tryd.prog))), (1, (.obj (errP 1))), (2, (.obj (errP 2))), (3, (.var [(.dat (.sl 1 (s_26.map elB)))]))]) (by kernel_rfl) ?_
  refine T_ret ?_
  obtain rfl := some_inv h
  exact ⟨[(.agg [(.dat (I 2)), (.dat (I 0)), (.dat (.str s_24)), (.dat (.sl 5 (([] : List Val).map encVal))), (.dat (.sl 1 (([] : List (List UInt8)).map elStr)))])], by kernel_rfl, rfl⟩
  refine T_seq (T_parts ?_)
  refine TL_part 2 [] (mk 27 [(0, (rf 3 0)), (5, (dt (.str s_14))), (6, (dt .any)), (7, (dt (.iface 100 .any))), (16, (rf 3 0)), (17, (dt (.iface 100 .any)))] [(0, (.obj (tabP Tryd.prog))), (1, (.obj (errP 1))), (2, (.obj (errP 2))), (3, (.var [(.dat (.sl 1 (s_17.map elB)))])), (8, (.var [(.dat (I 0)), (.dat (I 0)), (.dat (.str ([] : List UInt8))), (.dat nilS), (.dat nilS)]))]) _ (by kernel_rfl) (z4 zt) rfl ?_
  refine TL_neNil 84 84 18 true rfl rfl rfl (by kernel_rfl) (.inl ⟨rfl, 100, .any, by kernel_rfl⟩) ?_
  refine TL_turn [] [5, 6, 16, 18] [] (mk 27 [(5, (dt (.str s_14))), (6, (dt .any)), (16, (rf 3 0)), (18, (db true))] [(0, (.obj (tabP Tryd.prog))), (1, (.obj (errP 1))), (2, (.obj (errP 2))), (3, (.var [(.dat (.sl 1 (s_17.map elB)))])), (8, (.var [(.dat (I 0)), (.dat (I 0)), (.dat (.str ([] : List UInt8))), (.dat nilS), (.dat nilS)]))]) (by kernel_rfl) ?_
  refine TL_part 6 [zn, zg, zg, zg, zg, (zd (B true))] (mk 27 [(5, (dt (.str s_14))), (6, (dt .any)), (16, (rf 3 0)), (18, (db true)), (19, (db true)), (20, (dt (.tup []))), (21, (dt (.tup []))), (22, (dt (.tup []))), (23, (dt (.tup []))), (24, (db true))] [(0, (.obj (tabP Tryd.prog))), (1, (.obj (errP 1))), (2, (.obj (errP 2))), (3, (.var [(.dat (.sl 1 (s_17.map elB)))])), (8, (.var [(.dat (I 0)), (.dat (I 0)), (.dat (.str ([] : List UInt8))), (.dat nilS), (.dat nilS)]))]) _ (by kernel_rfl) (z2 (zc (gd_tf (rfl : true = true)) (zc (gd_tf (rfl : true = true)) (zc (gd_tf (rfl : true = true)) (zc (gd_tf (rfl : true = true)) (z1 (zc (rfl : true = true) zt))))))) rfl ?_
  refine TL_inlineP 187 33 [] Tryd.f33 _ rfl rfl (by kernel_rfl) Tryd.func33 rfl rfl (by decide) ?_
  refine T_turn [] [0, 1] [] (mk 6 [(0, (rf 3 0)), (1, (db true))] [(0, (.obj (tabP Tryd.prog))), (1, (.obj (errP 1))), (2, (.obj (errP 2))), (3, (.var [(.dat (.sl 1 (s_17.map elB)))])), (8, (.var [(.dat (I 0)), (.dat (I 0)), (.dat (.str ([] : List UInt8))), (.dat nilS), (.dat nilS)]))]) (by kernel_rfl) ?_
  refine T_reg [] [4] [] (mk 6 [(4, (db true))] [(0, (.obj (tabP Tryd.prog))), (1, (.obj (errP 1))), (2, (.obj (errP 2))), (3, (.var [(.dat (.sl 1 (s_17.map elB)))])), (8, (.var [(.dat (I 0)), (.dat (I 0)), (.dat (.str ([] : List UInt8))), (.dat nilS), (.dat nilS)]))]) _ (by kernel_rfl) (z2 zt) ?_
  refine T_cond true (by kernel_rfl) (fun _ => ?_) (fun h => absurd (h.symm.trans (rfl : true = true)) (by decide))
  refine T_parts ?_
  refine TL_part 1 [] (mk 6 [(4, (db true)), (5, (dt (.iface 29 (I 20))))] [(0, (.obj (tabP Tryd.prog))), (1, (.obj (errP 1))), (2, (.obj (errP 2))), (3, (.var [(.dat (.sl 1 (s_17.map elB)))])), (8, (.var [(.dat (I 0)), (.dat (I 0)), (.dat (.str ([] : List UInt8))), (.dat nilS), (.dat nilS)]))]) _ (by kernel_rfl) (z2 zt) rfl ?_
  refine TL_panic 29 (I 20) rfl rfl (by kernel_rfl) ?_
  obtain rfl := some_inv h
  exact (show _ ∧ _ from ⟨rfl, (show _ ∧ _ from ⟨rfl, (show _ ∧ _ from ⟨rfl, (show _ ∧ _ from ⟨rfl, ⟨_, rfl, lk3 (by kernel_rfl) (by kernel_rfl) (by kernel_rfl)⟩⟩)⟩)⟩)⟩)
  refine T_parts ?_
  refine TL_part 1 [] (mk 27 [(0, (rf 3 0)), (5, (dt (.str s_14))), (12, (dt (.str s_14)))] [(0, (.obj (tabP Tryd.prog))), (1, (.obj (errP 1))), (2, (.obj (errP 2))), (3, (.var [(.dat (.sl 1 (s_17.map elB)))])), (8, (.var [(.dat (I 0)), (.dat (I 0)), (.dat (.str ([] : List UInt8))), (.dat nilS), (.dat nilS)]))]) _ (by kernel_rfl) (z2 zt) rfl ?_
  obtain ⟨c28, h⟩ := ck_inv h
  refine TL_parseInt Tryd.lparse 13 1 2 s_14 rfl rfl rfl (by kernel_rfl) (by kernel_rfl) (by kernel_rfl) (by kernel_rfl) c28 (by kernel_rfl) (by kernel_rfl) (fun n_29 p30 => ?_) (fun p30 => ?_)
  replace h := onP_some h p30
  refine TL_turn [] [0, 5, 13] [] (mk 27 [(0, (rf 3 0)), (5, (dt (.str s_14))), (13, (.tup [(false, [(.dat (I n_29))]), (false, [(.dat (.con .nilIface))])]))] [(0, (.obj (tabP Tryd.prog))), (1, (.obj (errP 1))), (2, (.obj (errP 2))), (3, (.var [(.dat (.sl 1 (s_17.map elB)))])), (8, (.var [(.dat (I 0)), (.dat (I 0)), (.dat (.str ([] : List UInt8))), (.dat nilS), (.dat nilS)]))]) (by kernel_rfl) ?_
  refine TL_part 5 [] (mk 27 [(0, (rf 3 0)), (5, (dt (.str s_14))), (6, (di n_29)), (7, (dt (.con .nilIface))), (11, (.tup [(false, [(.dat (I n_29))]), (false, [(.dat (.con .nilIface))])])), (13, (.tup [(false, [(.dat (I n_29))]), (false, [(.dat (.con .nilIface))])])), (14, (di n_29)), (15, (dt (.con .nilIface)))] [(0, (.obj (tabP Tryd.prog))), (1, (.obj (errP 1))), (2, (.obj (errP 2))), (3, (.var [(.dat (.sl 1 (s_17.map elB)))])), (8, (.var [(.dat (I 0)), (.dat (I 0)), (.dat (.str ([] : List UInt8))), (.dat nilS), (.dat nilS)]))]) _ (by kernel_rfl) (z8 (z2 zt)) rfl ?_
  refine TL_nilQ ?_
  exact Exists.intro (.inl n_29) (And.intro h (arr [] [0, 5, 6, 7] [] [0, 1, 2, 3, 8] (by kernel_rfl)))
  replace h := onP_none h p30
  refine TL_turn [] [0, 5, 13] [] (mk 27 [(0, (rf 3 0)), (5, (dt (.str s_14))), (13, (.tup [(false, [(.dat .any)]), (false, [(.dat (.iface 100 .any))])]))] [(0, (.obj (tabP Tryd.prog))), (1, (.obj (errP 1))), (2, (.obj (errP 2))), (3, (.var [(.dat (.sl 1 (s_17.map elB)))])), (8, (.var [(.dat (I 0)), (.dat (I 0)), (.dat (.str ([] : List UInt8))), (.dat nilS), (.dat nilS)]))]) (by kernel_rfl) ?_
  refine TL_part 5 [] (mk 27 [(0, (rf 3 0)), (5, (dt (.str s_14))), (6, (dt .any)), (7, (dt (.iface 100 .any))), (11, (.tup [(false, [(.dat .any)]), (false, [(.dat (.iface 100 .any))])])), (13, (.tup [(false, [(.dat .any)]), (false, [(.dat (.iface 100 .any))])])), (14, (dt .any)), (15, (dt (.iface 100 .any)))] [(0, (.obj (tabP Tryd.prog))), (1, (.obj (errP 1))), (2, (.obj (errP 2))), (3, (.var [(.dat (.sl 1 (s_17.map elB)))])), (8, (.var [(.dat (I 0)), (.dat (I 0)), (.dat (.str ([] : List UInt8))), (.dat nilS), (.dat nilS)]))]) _ (by kernel_rfl) (z8 (z2 zt)) rfl ?_
  refine TL_nilQ ?_
  exact Exists.intro (.inr ()) (And.intro h (arr [] [0, 5, 6, 7] [] [0, 1, 2, 3, 8] (by kernel_rfl)))
  replace h := ite_f b9 h
  refine T_skip ?_
  obtain ⟨s_31, e32, h⟩ := sb_inv 1 elB h
  refine T_reg (hl 6 [(5, (zd (.sl 1 (s_31.map elB))))]) [0, 1, 4, 5] [] (mk 118 [(0, (rf 3 0)), (1, (di depth_2)), (4, (rf 8 0)), (5, (dt (.int .u8 ((x_4.toNat : Nat) : Int))))] [(0, (.obj (tabP Tryd.prog))), (1, (.obj (errP 1))), (2, (.obj (errP 2))), (3, (.var [(.dat (.sl 1 (s_31.map elB)))])), (8, (.var [(.dat (I 0)), (.dat (I 0)), (.dat (.str ([] : List UInt8))), (.dat nilS), (.dat nilS)]))]) _ (by kernel_rfl) (z8 (z3 (zc e32 (z6 zt)))) ?_
  refine T_seqJ (α := Int) (fun (v_33 : Int) => (mk 118 [(0, (rf 3 0)), (1, (di depth_2)), (4, (rf 8 0))] [(0, (.obj (tabP Tryd.prog))), (1, (.obj (errP 1))), (2, (.obj (errP 2))), (3, (.var [(.dat (.sl 1 (s_31.map elB)))])), (8, (.var [(.dat (I v_33)), (.dat (I 0)), (.dat (.str ([] : List UInt8))), (.dat nilS), (.dat nilS)]))])) (fun (v_33 : Int) => g__codec_reader_value_s_j4 depth_2 rc s_31 v_33 = some r) (fun v_33 h => ?_) ?_
  refine T_seq (T_parts ?_)
  refine TL_part 3 [] (mk 118 [(0, (rf 3 0)), (1, (di depth_2)), (4, (rf 8 0)), (52, (rf 3 0)), (53, (di depth_2)), (54, (db (depth_2 == 16)))] [(0, (.obj (tabP Tryd.prog))), (1, (.obj (errP 1))), (2, (.obj (errP 2))), (3, (.var [(.dat (.sl 1 (s_31.map elB)))])), (8, (.var [(.dat (I v_33)), (.dat (I 0)), (.dat (.str ([] : List UInt8))), (.dat nilS), (.dat nilS)]))]) _ (by kernel_rfl) (z6 zt) rfl ?_
  refine TL_inlineP 122 33 [] Tryd.f33 _ rfl rfl (by kernel_rfl) Tryd.func33 rfl rfl (by decide) ?_
  refine T_turn [] [0, 1] [] (mk 6 [(0, (rf 3 0)), (1, (db (depth_2 == 16)))] [(0, (.obj (tabP Tryd.prog))), (1, (.obj (errP 1))), (2, (.obj (errP 2))), (3, (.var [(.dat (.sl 1 (s_31.map elB)))])), (8, (.var [(.dat (I v_33)), (.dat (I 0)), (.dat (.str ([] : List UInt8))), (.dat nilS), (.dat nilS)]))]) (by kernel_rfl) ?_
  refine T_reg [] [4] [] (mk 6 [(4, (db (depth_2 == 16)))] [(0, (.obj (tabP Tryd.prog))), (1, (.obj (errP 1))), (2, (.obj (errP 2))), (3, (.var [(.dat (.sl 1 (s_31.map elB)))])), (8, (.var [(.dat (I v_33)), (.dat (I 0)), (.dat (.str ([] : List UInt8))), (.dat nilS), (.dat nilS)]))]) _ (by kernel_rfl) (z2 zt) ?_
  refine T_cond (depth_2 == 16) (by kernel_rfl) (fun b34 => ?_) (fun b34 => ?_)
  replace h := ite_t b34 h
  refine T_parts ?_
  refine TL_part 1 [] (mk 6 [(4, (db (depth_2 == 16))), (5, (dt (.iface 29 (I 20))))] [(0, (.obj (tabP Tryd.prog))), (1, (.obj (errP 1))), (2, (.obj (errP 2))), (3, (.var [(.dat (.sl 1 (s_31.map elB)))])), (8, (.var [(.dat (I v_33)), (.dat (I 0)), (.dat (.str ([] : List UInt8))), (.dat nilS), (.dat nilS)]))]) _ (by kernel_rfl) (z2 zt) rfl ?_
  refine TL_panic 29 (I 20) rfl rfl (by kernel_rfl) ?_
  obtain rfl := some_inv h
  exact (show _ ∧ _ from ⟨rfl, (show _ ∧ _ from ⟨rfl, ⟨_, rfl, lk3 (by kernel_rfl) (by kernel_rfl) (by kernel_rfl)⟩⟩)⟩)
  replace h := ite_f b34 h
  refine T_skip ?_
  refine ⟨[], by kernel_rfl, ?_⟩
  refine TL_turn [] [0, 1, 4, 55] [] (mk 118 [(0, (rf 3 0)), (1, (di depth_2)), (4, (rf 8 0)), (55, (.tup []))] [(0, (.obj (tabP Tryd.prog))), (1, (.obj (errP 1))), (2, (.obj (errP 2))), (3, (.var [(.dat (.sl 1 (s_31.map elB)))])), (8, (.var [(.dat (I v_33)), (.dat (I 0)), (.dat (.str ([] : List UInt8))), (.dat nilS), (.dat nilS)]))]) (by kernel_rfl) ?_
  refine TL_nilQ ?_
  refine T_turn [] [0, 1, 4] [] (mk 118 [(0, (rf 3 0)), (1, (di depth_2)), (4, (rf 8 0))] [(0, (.obj (tabP Tryd.prog))), (1, (.obj (errP 1))), (2, (.obj (errP 2))), (3, (.var [(.dat (.sl 1 (s_31.map elB)))])), (8, (.var [(.dat (I v_33)), (.dat (I 0)), (.dat (.str ([] : List UInt8))), (.dat nilS), (.dat nilS)]))]) (by kernel_rfl) ?_
  refine T_block ?_
  refine T_arr [.ownC 8 3 120 25 5, .ownC 8 4 111 9 1] [0, 1, 4] [] [0, 1, 2, 3, 8, 111, 120] _ (by kernel_rfl) (T_loopO (σ := (List UInt8) × (List Val) × (List (List UInt8))) (fun ((v_35, l_36, l_37) : (List UInt8) × (List Val) × (List (List UInt8))) => (mk 118 [(0, (rf 3 0)), (1, (di depth_2)), (4, (rf 8 0))] [(0, (.obj (tabP Tryd.prog))), (1, (.obj (errP 1))), (2, (.obj (errP 2))), (3, (.var [(.dat (.sl 1 (v_35.map elB)))])), (8, (.var [(.dat (I v_33)), (.dat (I 0)), (.dat (.str ([] : List UInt8))), (.own 120), (.own 111)])), (111, (.row 9 1 (l_37.map elStr))), (120, (.row 25 5 (l_36.map encVal)))])) (g__codec_reader_value_s_l5 v_33 depth_2 rc) (s_31, ([] : List Val), ([] : List (List UInt8))) h (fun v y1 hy1 h => ?_))
  obtain ⟨v_35, l_36, l_37⟩ := v
  refine T_block ?_
  refine T_seq (T_parts ?_)
  refine TL_part 7 (hl 6 [(5, (zd (I ((v_35.length : Nat) : Int))))]) (mk 118 [(0, (rf 3 0)), (1, (di depth_2)), (4, (rf 8 0)), (56, (rf 3 0)), (57, (rf 3 0)), (58, (rf 3 0)), (59, (rf 3 0)), (60, (dt (.sl 1 (v_35.map elB)))), (61, (di ((v_35.length : Nat) : Int))), (62, (db (((v_35.length : Nat) : Int) == 0)))] [(0, (.obj (tabP Tryd.prog))), (1, (.obj (errP 1))), (2, (.obj (errP 2))), (3, (.var [(.dat (.sl 1 (v_35.map elB)))])), (8, (.var [(.dat (I v_33)), (.dat (I 0)), (.dat (.str ([] : List UInt8))), (.own 120), (.own 111)])), (111, (.row 9 1 (l_37.map elStr))), (120, (.row 25 5 (l_36.map encVal)))]) _ (by kernel_rfl) (z8 (z3 (zc (len_s elB v_35) (z2 zt)))) rfl ?_
  refine TL_inlineP 122 33 [] Tryd.f33 _ rfl rfl (by kernel_rfl) Tryd.func33 rfl rfl (by decide) ?_
  refine T_turn [] [0, 1] [] (mk 6 [(0, (rf 3 0)), (1, (db (((v_35.length : Nat) : Int) == 0)))] [(0, (.obj (tabP Tryd.prog))), (1, (.obj (errP 1))), (2, (.obj (errP 2))), (3, (.var [(.dat (.sl 1 (v_35.map elB)))])), (8, (.var [(.dat (I v_33)), (.dat (I 0)), (.dat (.str ([] : List UInt8))), (.own 120), (.own 111)])), (111, (.row 9 1 (l_37.map elStr))), (120, (.row 25 5 (l_36.map encVal)))]) (by kernel_rfl) ?_
  refine T_reg [] [4] [] (mk 6 [(4, (db (((v_35.length : Nat) : Int) == 0)))] [(0, (.obj (tabP Tryd.prog))), (1, (.obj (errP 1))), (2, (.obj (errP 2))), (3, (.var [(.dat (.sl 1 (v_35.map elB)))])), (8, (.var [(.dat (I v_33)), (.dat (I 0)), (.dat (.str ([] : List UInt8))), (.own 120), (.own 111)])), (111, (.row 9 1 (l_37.map elStr))), (120, (.row 25 5 (l_36.map encVal)))]) _ (by kernel_rfl) (z2 zt) ?_
  refine T_cond (((v_35.length : Nat) : Int) == 0) (by kernel_rfl) (fun b41 => ?_) (fun b41 => ?_)
  replace h := ite_t b41 h
  refine T_parts ?_
  refine TL_part 1 [] (mk 6 [(4, (db (((v_35.length : Nat) : Int) == 0))), (5, (dt (.iface 29 (I 20))))] [(0, (.obj (tabP Tryd.prog))), (1, (.obj (errP 1))), (2, (.obj (errP 2))), (3, (.var [(.dat (.sl 1 (v_35.map elB)))])), (8, (.var [(.dat (I v_33)), (.dat (I 0)), (.dat (.str ([] : List UInt8))), (.own 120), (.own 111)])), (111, (.row 9 1 (l_37.map elStr))), (120, (.row 25 5 (l_36.map encVal)))]) _ (by kernel_rfl) (z2 zt) rfl ?_
  refine TL_panic 29 (I 20) rfl rfl (by kernel_rfl) ?_
  replace h := up_inv h hy1
  obtain rfl := some_inv h
  exact (show _ ∧ _ from ⟨rfl, (show _ ∧ _ from ⟨rfl, ⟨_, rfl, lk3 (by kernel_rfl) (by kernel_rfl) (by kernel_rfl)⟩⟩)⟩)
  replace h := ite_f b41 h
  refine T_skip ?_
  refine ⟨[], by kernel_rfl, ?_⟩
  refine TL_turn [] [0, 1, 4, 63] [] (mk 118 [(0, (rf 3 0)), (1, (di depth_2)), (4, (rf 8 0)), (63, (.tup []))] [(0, (.obj (tabP Tryd.prog))), (1, (.obj (errP 1))), (2, (.obj (errP 2))), (3, (.var [(.dat (.sl 1 (v_35.map elB)))])), (8, (.var [(.dat (I v_33)), (.dat (I 0)), (.dat (.str ([] : List UInt8))), (.own 120), (.own 111)])), (111, (.row 9 1 (l_37.map elStr))), (120, (.row 25 5 (l_36.map encVal)))]) (by kernel_rfl) ?_
  refine TL_nilQ ?_
  refine T_turn [] [0, 1, 4] [] (mk 118 [(0, (rf 3 0)), (1, (di depth_2)), (4, (rf 8 0))] [(0, (.obj (tabP Tryd.prog))), (1, (.obj (errP 1))), (2, (.obj (errP 2))), (3, (.var [(.dat (.sl 1 (v_35.map elB)))])), (8, (.var [(.dat (I v_33)), (.dat (I 0)), (.dat (.str ([] : List UInt8))), (.own 120), (.own 111)])), (111, (.row 9 1 (l_37.map elStr))), (120, (.row 25 5 (l_36.map encVal)))]) (by kernel_rfl) ?_
  refine T_seq ?_
  obtain ⟨x_42, e43, e44, e45, h⟩ := gn_inv elB h
  refine T_reg (hl 5 [(4, (zd (.int .u8 ((x_42.toNat : Nat) : Int))))]) [0, 1, 4, 70] [] (mk 118 [(0, (rf 3 0)), (1, (di depth_2)), (4, (rf 8 0)), (70, (db (((x_42.toNat : Nat) : Int) == 101)))] [(0, (.obj (tabP Tryd.prog))), (1, (.obj (errP 1))), (2, (.obj (errP 2))), (3, (.var [(.dat (.sl 1 (v_35.map elB)))])), (8, (.var [(.dat (I v_33)), (.dat (I 0)), (.dat (.str ([] : List UInt8))), (.own 120), (.own 111)])), (111, (.row 9 1 (l_37.map elStr))), (120, (.row 25 5 (l_36.map encVal)))]) _ (by kernel_rfl) (z8 (z1 (zc e43 (z4 zt)))) ?_
  refine T_cond (((x_42.toNat : Nat) : Int) == 101) (by kernel_rfl) (fun b46 => ?_) (fun b46 => ?_)
  replace h := ite_t b46 h
  obtain ⟨s_47, e48, h⟩ := sb_inv 1 elB h
  refine T_reg (hl 6 [(5, (zd (.sl 1 (s_47.map elB))))]) [4] [] (mk 118 [(4, (rf 8 0))] [(0, (.obj (tabP Tryd.prog))), (1, (.obj (errP 1))), (2, (.obj (errP 2))), (3, (.var [(.dat (.sl 1 (s_47.map elB)))])), (8, (.var [(.dat (I v_33)), (.dat (I 0)), (.dat (.str ([] : List UInt8))), (.own 120), (.own 111)])), (111, (.row 9 1 (l_37.map elStr))), (120, (.row 25 5 (l_36.map encVal)))]) _ (by kernel_rfl) (z8 (z3 (zc e48 (z6 zt)))) ?_
  refine T_reg [] [4] [] (mk 118 [(4, (rf 8 0))] [(0, (.obj (tabP Tryd.prog))), (1, (.obj (errP 1))), (2, (.obj (errP 2))), (3, (.var [(.dat (.sl 1 (s_47.map elB)))])), (8, (.var [(.dat (I v_33)), (.dat (I 0)), (.dat (.str ([] : List UInt8))), (.own 120), (.own 111)])), (111, (.row 9 1 (l_37.map elStr))), (120, (.row 25 5 (l_36.map encVal)))]) _ (by kernel_rfl) (z4 zt) ?_
  refine T_arr [.ice 111, .ice 120, .ice 8] [4] [8, 111, 120] [0, 1, 2, 3] (mk 118 [(4, (dt (.ptr [(I v_33), (I 0), (.str ([] : List UInt8)), (.sl 5 (l_36.map encVal)), (.sl 1 (l_37.map elStr))])))] [(0, (.obj (tabP Tryd.prog))), (1, (.obj (errP 1))), (2, (.obj (errP 2))), (3, (.var [(.dat (.sl 1 (s_47.map elB)))]))]) (by kernel_rfl) ?_
  refine T_ret ?_
  replace h := up_inv h hy1
  obtain rfl := some_inv h
  exact ⟨[(.agg [(.dat (I v_33)), (.dat (I 0)), (.dat (.str ([] : List UInt8))), (.dat (.sl 5 (l_36.map encVal))), (.dat (.sl 1 (l_37.map elStr)))])], by kernel_rfl, rfl⟩
  replace h := ite_f b46 h
  refine T_skip ?_
  refine T_seqJ (α := (List UInt8) × (List (List UInt8))) (fun ((v_49, l_50) : (List UInt8) × (List (List UInt8))) => (mk 118 [(0, (rf 3 0)), (1, (di depth_2)), (4, (rf 8 0))] [(0, (.obj (tabP Tryd.prog))), (1, (.obj (errP 1))), (2, (.obj (errP 2))), (3, (.var [(.dat (.sl 1 (v_49.map elB)))])), (8, (.var [(.dat (I v_33)), (.dat (I 0)), (.dat (.str ([] : List UInt8))), (.own 120), (.own 111)])), (111, (.row 9 1 (l_50.map elStr))), (120, (.row 25 5 (l_36.map encVal)))])) (fun ((v_49, l_50) : (List UInt8) × (List (List UInt8))) => g__codec_reader_value_s_j6 depth_2 rc l_36 v_33 v_49 l_50 = some y1) (fun v h => ?_) ?_
  obtain ⟨v_49, l_50⟩ := v
  refine T_arr [] [0, 1, 4] [] [0, 1, 2, 3, 8, 111, 120] (mk 118 [(0, (rf 3 0)), (1, (di depth_2)), (4, (rf 8 0))] [(0, (.obj (tabP Tryd.prog))), (1, (.obj (errP 1))), (2, (.obj (errP 2))), (3, (.var [(.dat (.sl 1 (v_49.map elB)))])), (8, (.var [(.dat (I v_33)), (.dat (I 0)), (.dat (.str ([] : List UInt8))), (.own 120), (.own 111)])), (111, (.row 9 1 (l_50.map elStr))), (120, (.row 25 5 (l_36.map encVal)))]) (by kernel_rfl) ?_
  obtain ⟨c51, h⟩ := ckI_inv h
  obtain ⟨y53, e54, hk55, hz56⟩ := bdP_inv h
  rcases y53 with r_52 | u
  replace h := hk55 _ rfl
  obtain ⟨c57, h⟩ := ck_inv h
  refine T_stC [{}, {}, {}, {}, { h := zd (I (depth_2 + 1)) }, {}, {}, { h := zd (.sl 5 ((l_36 ++ [r_52.1]).map encVal)) }, {}, {}] _ [(0, 109, (rf 8 3)), (1, 110, (ow 120)), (2, 111, (rf 3 0)), (3, 112, (di depth_2)), (4, 113, (di (depth_2 + 1))), (5, 114, (.agg (qVal r_52.1))), (6, 115, (ow 119)), (7, 110, J), (7, 116, (ow 120)), (8, 117, (rf 8 3))] [(5, 3, some (.var [(.dat (.sl 1 (r_52.2.rest.map elB)))])), (6, 119, some (.row 25 5 [ndcVal r_52.1])), (7, 8, some (.var [(.dat (I v_33)), (.dat (I 0)), (.dat (.str ([] : List UInt8))), .junk, (.own 111)])), (7, 120, some (.row 25 5 ((l_36 ++ [r_52.1]).map encVal))), (9, 8, some (.var [(.dat (I v_33)), (.dat (I 0)), (.dat (.str ([] : List UInt8))), (.own 120), (.own 111)]))] [0, 1, 2, 3, 8, 111, 119, 120] 10 [0, 1, 0, 0, 8, 28, 60, 127, 255, 511] 736 [0, 32, 96, 224, 736] [5] none (by kernel_rfl) (by decide) (by kernel_rfl) (by kernel_rfl) (by kernel_rfl) (by kernel_rfl) (by kernel_rfl) (by kernel_rfl) (by kernel_rfl) (zs zt (zs zt (zs zt (zs zt (zs c51 (zs zt (zs (zc zt (show dfill (fun i => some (i * 5, 5)) (List.replicate (1 * 5) .junk) [(0, [(.dat (I r_52.1.k)), (.dat (I r_52.1.n)), (.dat (.str r_52.1.s)), (.dat (.sl 5 (r_52.1.l.map encVal))), (.dat (.sl 1 (r_52.1.ks.map elStr)))])] = some ((flat [ndcVal r_52.1]).map .dat) from rfl)) (zs (zc zt (app_sE encVal ndcVal encVal_nd encVal_one l_36 r_52.1 c57)) (zs zt (zs (zc zt zt) zS)))))))))) ?_ (fun _ => ?_)
  intro c hc; simp only [List.mem_cons, List.not_mem_nil, or_false] at hc; rcases hc with rfl
  exact ⟨_, rfl, callU (hand := [0, 1, 2, 3]) (nb := 100004) [] (hrc e54) [0, 1, 2, 3, 8, 111, 119, 120] (by decide) rfl rfl 5 _ _ _ (by kernel_rfl) (by kernel_rfl) (by kernel_rfl) (by kernel_rfl) (by kernel_rfl) (by kernel_rfl)⟩
  exact Exists.intro (r_52.2.rest, (l_36 ++ [r_52.1]), l_50) (And.intro h (arr [] [0, 1, 4] [119] [0, 1, 2, 3, 8, 111, 120] (by kernel_rfl)))
  replace h := hz56 rfl
  replace h := up_inv h hy1
  obtain rfl := some_inv h
  refine T_stC [{}, {}, {}, {}, { h := zd (I (depth_2 + 1)) }, {}, {}, {}, {}, {}] _ [(0, 109, (rf 8 3)), (1, 110, (ow 120)), (2, 111, (rf 3 0)), (3, 112, (di depth_2)), (4, 113, (di (depth_2 + 1)))] [] [0, 1, 2, 3, 8, 111, 120] 10 [0, 1, 0, 0, 8, 28, 60, 127, 255, 511] 992 [0] [5] (some 5) (by kernel_rfl) (by decide) (by kernel_rfl) (by kernel_rfl) (by kernel_rfl) (by kernel_rfl) (by kernel_rfl) (by kernel_rfl) (by kernel_rfl) (zs zt (zs zt (zs zt (zs zt (zs c51 (zs zt (zs zt (zs zt (zs zt (zs zt zS)))))))))) ?_ (fun h => absurd h (by decide))
  intro c hc; simp only [List.mem_cons, List.not_mem_nil, or_false] at hc; rcases hc with rfl
  refine ⟨_, rfl, callP (hand := [0, 1, 2, 3]) (nb := 100004) [] (hrc e54) rfl rfl 5 _ _ _ (by kernel_rfl) (by kernel_rfl) (by kernel_rfl) (by kernel_rfl) (fun _ _ hlk => ?_)⟩
  exact (show _ ∧ _ from ⟨rfl, ⟨_, rfl, lk3 ((after_lk (by kernel_rfl) rfl).trans (by rw [hlk 0 (by decide)]; kernel_rfl)) ((after_lk (by kernel_rfl) rfl).trans (by rw [hlk 1 (by decide)]; kernel_rfl)) ((after_lk (by kernel_rfl) rfl).trans (by rw [hlk 2 (by decide)]; kernel_rfl))⟩⟩)
  refine T_reg [] [0, 1, 4, 82] [] (mk 118 [(0, (rf 3 0)), (1, (di depth_2)), (4, (rf 8 0)), (82, (db (v_33 == 4)))] [(0, (.obj (tabP Tryd.prog))), (1, (.obj (errP 1))), (2, (.obj (errP 2))), (3, (.var [(.dat (.sl 1 (v_35.map elB)))])), (8, (.var [(.dat (I v_33)), (.dat (I 0)), (.dat (.str ([] : List UInt8))), (.own 120), (.own 111)])), (111, (.row 9 1 (l_37.map elStr))), (120, (.row 25 5 (l_36.map encVal)))]) _ (by kernel_rfl) (z6 zt) ?_
  refine T_cond (v_33 == 4) (by kernel_rfl) (fun b58 => ?_) (fun b58 => ?_)
  replace h := ite_t b58 h
  refine T_seq (T_parts ?_)
  refine TL_part 1 [] (mk 118 [(0, (rf 3 0)), (1, (di depth_2)), (4, (rf 8 0)), (82, (db (v_33 == 4))), (83, (rf 3 0))] [(0, (.obj (tabP Tryd.prog))), (1, (.obj (errP 1))), (2, (.obj (errP 2))), (3, (.var [(.dat (.sl 1 (v_35.map elB)))])), (8, (.var [(.dat (I v_33)), (.dat (I 0)), (.dat (.str ([] : List UInt8))), (.own 120), (.own 111)])), (111, (.row 9 1 (l_37.map elStr))), (120, (.row 25 5 (l_36.map encVal)))]) _ (by kernel_rfl) (z2 zt) rfl ?_
  refine TL_inlineP 122 49 [] Tryd.f49 _ rfl rfl (by kernel_rfl) Tryd.func49 rfl rfl (by decide) ?_
  refine T_turn [] [0] [] (mk 38 [(0, (rf 3 0))] [(0, (.obj (tabP Tryd.prog))), (1, (.obj (errP 1))), (2, (.obj (errP 2))), (3, (.var [(.dat (.sl 1 (v_35.map elB)))])), (8, (.var [(.dat (I v_33)), (.dat (I 0)), (.dat (.str ([] : List UInt8))), (.own 120), (.own 111)])), (111, (.row 9 1 (l_37.map elStr))), (120, (.row 25 5 (l_36.map encVal)))]) (by kernel_rfl) ?_
  refine T_reg [] [0] [] (mk 38 [(0, (rf 3 0))] [(0, (.obj (tabP Tryd.prog))), (1, (.obj (errP 1))), (2, (.obj (errP 2))), (3, (.var [(.dat (.sl 1 (v_35.map elB)))])), (8, (.var [(.dat (I v_33)), (.dat (I 0)), (.dat (.str ([] : List UInt8))), (.own 120), (.own 111)])), (111, (.row 9 1 (l_37.map elStr))), (120, (.row 25 5 (l_36.map encVal)))]) _ (by kernel_rfl) (z2 zt) ?_
  refine T_seq (T_parts ?_)
  refine TL_part 1 [] (mk 38 [(0, (rf 3 0)), (5, (rf 3 0))] [(0, (.obj (tabP Tryd.prog))), (1, (.obj (errP 1))), (2, (.obj (errP 2))), (3, (.var [(.dat (.sl 1 (v_35.map elB)))])), (8, (.var [(.dat (I v_33)), (.dat (I 0)), (.dat (.str ([] : List UInt8))), (.own 120), (.own 111)])), (111, (.row 9 1 (l_37.map elStr))), (120, (.row 25 5 (l_36.map encVal)))]) _ (by kernel_rfl) (z2 zt) rfl ?_
  refine TL_inlineP 160 50 [] Tryd.f50 _ rfl rfl (by kernel_rfl) Tryd.func50 rfl rfl (by decide) ?_
  refine T_turn [] [0, 1] [] (mk 27 [(0, (rf 3 0)), (1, (dt (.int .u8 58)))] [(0, (.obj (tabP Tryd.prog))), (1, (.obj (errP 1))), (2, (.obj (errP 2))), (3, (.var [(.dat (.sl 1 (v_35.map elB)))])), (8, (.var [(.dat (I v_33)), (.dat (I 0)), (.dat (.str ([] : List UInt8))), (.own 120), (.own 111)])), (111, (.row 9 1 (l_37.map elStr))), (120, (.row 25 5 (l_36.map encVal)))]) (by kernel_rfl) ?_
  refine T_reg [] [0, 1] [] (mk 27 [(0, (rf 3 0)), (1, (dt (.int .u8 58)))] [(0, (.obj (tabP Tryd.prog))), (1, (.obj (errP 1))), (2, (.obj (errP 2))), (3, (.var [(.dat (.sl 1 (v_35.map elB)))])), (8, (.var [(.dat (I v_33)), (.dat (I 0)), (.dat (.str ([] : List UInt8))), (.own 120), (.own 111)])), (111, (.row 9 1 (l_37.map elStr))), (120, (.row 25 5 (l_36.map encVal)))]) _ (by kernel_rfl) (z2 zt) ?_
  refine T_seq (T_parts ?_)
  refine TL_part 2 [] (mk 27 [(0, (rf 3 0)), (1, (dt (.int .u8 58))), (8, (rf 3 0)), (9, (dt (.int .u8 58)))] [(0, (.obj (tabP Tryd.prog))), (1, (.obj (errP 1))), (2, (.obj (errP 2))), (3, (.var [(.dat (.sl 1 (v_35.map elB)))])), (8, (.var [(.dat (I v_33)), (.dat (I 0)), (.dat (.str ([] : List UInt8))), (.own 120), (.own 111)])), (111, (.row 9 1 (l_37.map elStr))), (120, (.row 25 5 (l_36.map encVal)))]) _ (by kernel_rfl) (z4 zt) rfl ?_
  refine TL_inlineP 187 56 [] Tryd.f56 _ rfl rfl (by kernel_rfl) Tryd.func56 rfl rfl (by decide) ?_
  refine T_turn [] [0, 1] [] (mk 40 [(0, (rf 3 0)), (1, (dt (.int .u8 58)))] [(0, (.obj (tabP Tryd.prog))), (1, (.obj (errP 1))), (2, (.obj (errP 2))), (3, (.var [(.dat (.sl 1 (v_35.map elB)))])), (8, (.var [(.dat (I v_33)), (.dat (I 0)), (.dat (.str ([] : List UInt8))), (.own 120), (.own 111)])), (111, (.row 9 1 (l_37.map elStr))), (120, (.row 25 5 (l_36.map encVal)))]) (by kernel_rfl) ?_
  refine T_reg [] [0, 1] [] (mk 40 [(0, (rf 3 0)), (1, (dt (.int .u8 58)))] [(0, (.obj (tabP Tryd.prog))), (1, (.obj (errP 1))), (2, (.obj (errP 2))), (3, (.var [(.dat (.sl 1 (v_35.map elB)))])), (8, (.var [(.dat (I v_33)), (.dat (I 0)), (.dat (.str ([] : List UInt8))), (.own 120), (.own 111)])), (111, (.row 9 1 (l_37.map elStr))), (120, (.row 25 5 (l_36.map encVal)))]) _ (by kernel_rfl) (z2 zt) ?_
  obtain ⟨r_59, e60, h⟩ := bd_inv h
  refine T_reg (hl 6 [(5, (zd (I r_59)))]) [0, 5] [] (mk 40 [(0, (rf 3 0)), (5, (di r_59))] [(0, (.obj (tabP Tryd.prog))), (1, (.obj (errP 1))), (2, (.obj (errP 2))), (3, (.var [(.dat (.sl 1 (v_35.map elB)))])), (8, (.var [(.dat (I v_33)), (.dat (I 0)), (.dat (.str ([] : List UInt8))), (.own 120), (.own 111)])), (111, (.row 9 1 (l_37.map elStr))), (120, (.row 25 5 (l_36.map encVal)))]) _ (by kernel_rfl) (z8 (z3 (zc (g_slices_Index_Lbyte_byte_ret e60) (z2 zt)))) ?_
  rcases Bool.eq_false_or_eq_true (decide (r_59 < 0)) with b61 | b61
  replace h := ite_t b61 h
  refine T_seq (T_parts ?_)
  refine TL_part 7 [zn, zn, zn, zn, zg, zg, (zd (B true))] (mk 40 [(0, (rf 3 0)), (5, (di r_59)), (13, (rf 3 0)), (14, (di r_59)), (15, (db (decide (r_59 < 0)))), (16, (db (decide (r_59 < 0)))), (17, (dt (.tup []))), (18, (dt (.tup []))), (19, (db true))] [(0, (.obj (tabP Tryd.prog))), (1, (.obj (errP 1))), (2, (.obj (errP 2))), (3, (.var [(.dat (.sl 1 (v_35.map elB)))])), (8, (.var [(.dat (I v_33)), (.dat (I 0)), (.dat (.str ([] : List UInt8))), (.own 120), (.own 111)])), (111, (.row 9 1 (l_37.map elStr))), (120, (.row 25 5 (l_36.map encVal)))]) _ (by kernel_rfl) (z8 (zc (gd_tf b61) (zc (gd_tf b61) (z1 (zc b61 zt))))) rfl ?_
  refine TL_inlineP 227 33 [] Tryd.f33 _ rfl rfl (by kernel_rfl) Tryd.func33 rfl rfl (by decide) ?_
  refine T_turn [] [0, 1] [] (mk 6 [(0, (rf 3 0)), (1, (db true))] [(0, (.obj (tabP Tryd.prog))), (1, (.obj (errP 1))), (2, (.obj (errP 2))), (3, (.var [(.dat (.sl 1 (v_35.map elB)))])), (8, (.var [(.dat (I v_33)), (.dat (I 0)), (.dat (.str ([] : List UInt8))), (.own 120), (.own 111)])), (111, (.row 9 1 (l_37.map elStr))), (120, (.row 25 5 (l_36.map encVal)))]) (by kernel_rfl) ?_
  refine T_reg [] [4] [] (mk 6 [(4, (db true))] [(0, (.obj (tabP Tryd.prog))), (1, (.obj (errP 1))), (2, (.obj (errP 2))), (3, (.var [(.dat (.sl 1 (v_35.map elB)))])), (8, (.var [(.dat (I v_33)), (.dat (I 0)), (.dat (.str ([] : List UInt8))), (.own 120), (.own 111)])), (111, (.row 9 1 (l_37.map elStr))), (120, (.row 25 5 (l_36.map encVal)))]) _ (by kernel_rfl) (z2 zt) ?_
  refine T_cond true (by kernel_rfl) (fun _ => ?_) (fun h => absurd (h.symm.trans (rfl : true = true)) (by decide))
  refine T_parts ?_
  refine TL_part 1 [] (mk 6 [(4, (db true)), (5, (dt (.iface 29 (I 20))))] [(0, (.obj (tabP Tryd.prog))), (1, (.obj (errP 1))), (2, (.obj (errP 2))), (3, (.var [(.dat (.sl 1 (v_35.map elB)))])), (8, (.var [(.dat (I v_33)), (.dat (I 0)), (.dat (.str ([] : List UInt8))), (.own 120), (.own 111)])), (111, (.row 9 1 (l_37.map elStr))), (120, (.row 25 5 (l_36.map encVal)))]) _ (by kernel_rfl) (z2 zt) rfl ?_
  refine TL_panic 29 (I 20) rfl rfl (by kernel_rfl) ?_
  replace h := up_inv h hy1
  obtain rfl := some_inv h
  exact (show _ ∧ _ from ⟨rfl, (show _ ∧ _ from ⟨rfl, (show _ ∧ _ from ⟨rfl, (show _ ∧ _ from ⟨rfl, (show _ ∧ _ from ⟨rfl, ⟨_, rfl, lk3 (by kernel_rfl) (by kernel_rfl) (by kernel_rfl)⟩⟩)⟩)⟩)⟩)⟩)
  replace h := ite_f b61 h
  refine T_seq (T_parts ?_)
  refine TL_part 7 (hl 7 [(6, (zd (B false)))]) (mk 40 [(0, (rf 3 0)), (5, (di r_59)), (13, (rf 3 0)), (14, (di r_59)), (15, (db (decide (r_59 < 0)))), (16, (db (decide (r_59 < 0)))), (17, (di r_59)), (18, (db (decide (r_59 > 20)))), (19, (db (decide (r_59 > 20))))] [(0, (.obj (tabP Tryd.prog))), (1, (.obj (errP 1))), (2, (.obj (errP 2))), (3, (.var [(.dat (.sl 1 (v_35.map elB)))])), (8, (.var [(.dat (I v_33)), (.dat (I 0)), (.dat (.str ([] : List UInt8))), (.own 120), (.own 111)])), (111, (.row 9 1 (l_37.map elStr))), (120, (.row 25 5 (l_36.map encVal)))]) _ (by kernel_rfl) (z8 (zc (gd_ff b61) (z1 (zc (gd_ff b61) (z2 (zc b61 zt)))))) rfl ?_
  refine TL_inlineP 227 33 [] Tryd.f33 _ rfl rfl (by kernel_rfl) Tryd.func33 rfl rfl (by decide) ?_
  refine T_turn [] [0, 1] [] (mk 6 [(0, (rf 3 0)), (1, (db (decide (r_59 > 20))))] [(0, (.obj (tabP Tryd.prog))), (1, (.obj (errP 1))), (2, (.obj (errP 2))), (3, (.var [(.dat (.sl 1 (v_35.map elB)))])), (8, (.var [(.dat (I v_33)), (.dat (I 0)), (.dat (.str ([] : List UInt8))), (.own 120), (.own 111)])), (111, (.row 9 1 (l_37.map elStr))), (120, (.row 25 5 (l_36.map encVal)))]) (by kernel_rfl) ?_
  refine T_reg [] [4] [] (mk 6 [(4, (db (decide (r_59 > 20))))] [(0, (.obj (tabP Tryd.prog))), (1, (.obj (errP 1))), (2, (.obj (errP 2))), (3, (.var [(.dat (.sl 1 (v_35.map elB)))])), (8, (.var [(.dat (I v_33)), (.dat (I 0)), (.dat (.str ([] : List UInt8))), (.own 120), (.own 111)])), (111, (.row 9 1 (l_37.map elStr))), (120, (.row 25 5 (l_36.map encVal)))]) _ (by kernel_rfl) (z2 zt) ?_
  refine T_cond (decide (r_59 > 20)) (by kernel_rfl) (fun b62 => ?_) (fun b62 => ?_)
  replace h := ite_t b62 h
  refine T_parts ?_
  refine TL_part 1 [] (mk 6 [(4, (db (decide (r_59 > 20)))), (5, (dt (.iface 29 (I 20))))] [(0, (.obj (tabP Tryd.prog))), (1, (.obj (errP 1))), (2, (.obj (errP 2))), (3, (.var [(.dat (.sl 1 (v_35.map elB)))])), (8, (.var [(.dat (I v_33)), (.dat (I 0)), (.dat (.str ([] : List UInt8))), (.own 120), (.own 111)])), (111, (.row 9 1 (l_37.map elStr))), (120, (.row 25 5 (l_36.map encVal)))]) _ (by kernel_rfl) (z2 zt) rfl ?_
  refine TL_panic 29 (I 20) rfl rfl (by kernel_rfl) ?_
  replace h := up_inv h hy1
  obtain rfl := some_inv h
  exact (show _ ∧ _ from ⟨rfl, (show _ ∧ _ from ⟨rfl, (show _ ∧ _ from ⟨rfl, (show _ ∧ _ from ⟨rfl, (show _ ∧ _ from ⟨rfl, ⟨_, rfl, lk3 (by kernel_rfl) (by kernel_rfl) (by kernel_rfl)⟩⟩)⟩)⟩)⟩)⟩)
  replace h := ite_f b62 h
  refine T_skip ?_
  refine ⟨[], by kernel_rfl, ?_⟩
  refine TL_turn [] [0, 5, 20] [] (mk 40 [(0, (rf 3 0)), (5, (di r_59)), (20, (.tup []))] [(0, (.obj (tabP Tryd.prog))), (1, (.obj (errP 1))), (2, (.obj (errP 2))), (3, (.var [(.dat (.sl 1 (v_35.map elB)))])), (8, (.var [(.dat (I v_33)), (.dat (I 0)), (.dat (.str ([] : List UInt8))), (.own 120), (.own 111)])), (111, (.row 9 1 (l_37.map elStr))), (120, (.row 25 5 (l_36.map encVal)))]) (by kernel_rfl) ?_
  refine TL_nilQ ?_
  refine T_turn [] [0, 5] [] (mk 40 [(0, (rf 3 0)), (5, (di r_59))] [(0, (.obj (tabP Tryd.prog))), (1, (.obj (errP 1))), (2, (.obj (errP 2))), (3, (.var [(.dat (.sl 1 (v_35.map elB)))])), (8, (.var [(.dat (I v_33)), (.dat (I 0)), (.dat (.str ([] : List UInt8))), (.own 120), (.own 111)])), (111, (.row 9 1 (l_37.map elStr))), (120, (.row 25 5 (l_36.map encVal)))]) (by kernel_rfl) ?_
  obtain ⟨s_63, e64, h⟩ := sbm_inv 1 elB h
  refine T_reg (hl 7 [(6, (zd (.sl 1 (s_63.map elB))))]) [0, 5, 6] [] (mk 40 [(0, (rf 3 0)), (5, (di r_59)), (6, (dt (.sl 1 (s_63.map elB))))] [(0, (.obj (tabP Tryd.prog))), (1, (.obj (errP 1))), (2, (.obj (errP 2))), (3, (.var [(.dat (.sl 1 (v_35.map elB)))])), (8, (.var [(.dat (I v_33)), (.dat (I 0)), (.dat (.str ([] : List UInt8))), (.own 120), (.own 111)])), (111, (.row 9 1 (l_37.map elStr))), (120, (.row 25 5 (l_36.map encVal)))]) _ (by kernel_rfl) (z8 (z5 (zc e64 (z2 zt)))) ?_
  obtain ⟨c65, h⟩ := ckI_inv h
  obtain ⟨s_66, e67, h⟩ := sb_inv 1 elB h
  refine T_reg (hl 8 [(6, (zd (I (r_59 + 1)))), (7, (zd (.sl 1 (s_66.map elB))))]) [6] [] (mk 40 [(6, (dt (.sl 1 (s_63.map elB))))] [(0, (.obj (tabP Tryd.prog))), (1, (.obj (errP 1))), (2, (.obj (errP 2))), (3, (.var [(.dat (.sl 1 (s_66.map elB)))])), (8, (.var [(.dat (I v_33)), (.dat (I 0)), (.dat (.str ([] : List UInt8))), (.own 120), (.own 111)])), (111, (.row 9 1 (l_37.map elStr))), (120, (.row 25 5 (l_36.map encVal)))]) _ (by kernel_rfl) (z8 (z5 (zc c65 (z1 (zc e67 (z6 zt)))))) ?_
  refine T_reg [zn, (zd (.str s_63))] [4] [] (mk 40 [(4, (dt (.str s_63)))] [(0, (.obj (tabP Tryd.prog))), (1, (.obj (errP 1))), (2, (.obj (errP 2))), (3, (.var [(.dat (.sl 1 (s_66.map elB)))])), (8, (.var [(.dat (I v_33)), (.dat (I 0)), (.dat (.str ([] : List UInt8))), (.own 120), (.own 111)])), (111, (.row 9 1 (l_37.map elStr))), (120, (.row 25 5 (l_36.map encVal)))]) _ (by kernel_rfl) (z3 (zc (rfl : s_63.map elB = s_63.map elB) (z2 zt))) ?_
  refine T_ret ?_
  refine ⟨[(dt (.str s_63))], by kernel_rfl, ?_⟩
  refine TL_turn [] [0, 10] [] (mk 27 [(0, (rf 3 0)), (10, (dt (.str s_63)))] [(0, (.obj (tabP Tryd.prog))), (1, (.obj (errP 1))), (2, (.obj (errP 2))), (3, (.var [(.dat (.sl 1 (s_66.map elB)))])), (8, (.var [(.dat (I v_33)), (.dat (I 0)), (.dat (.str ([] : List UInt8))), (.own 120), (.own 111)])), (111, (.row 9 1 (l_37.map elStr))), (120, (.row 25 5 (l_36.map encVal)))]) (by kernel_rfl) ?_
  refine TL_part 1 [] (mk 27 [(0, (rf 3 0)), (5, (dt (.str s_63))), (10, (dt (.str s_63)))] [(0, (.obj (tabP Tryd.prog))), (1, (.obj (errP 1))), (2, (.obj (errP 2))), (3, (.var [(.dat (.sl 1 (s_66.map elB)))])), (8, (.var [(.dat (I v_33)), (.dat (I 0)), (.dat (.str ([] : List UInt8))), (.own 120), (.own 111)])), (111, (.row 9 1 (l_37.map elStr))), (120, (.row 25 5 (l_36.map encVal)))]) _ (by kernel_rfl) (z2 zt) rfl ?_
  refine TL_nilQ ?_
  refine T_turn [] [0, 5] [] (mk 27 [(0, (rf 3 0)), (5, (dt (.str s_63)))] [(0, (.obj (tabP Tryd.prog))), (1, (.obj (errP 1))), (2, (.obj (errP 2))), (3, (.var [(.dat (.sl 1 (s_66.map elB)))])), (8, (.var [(.dat (I v_33)), (.dat (I 0)), (.dat (.str ([] : List UInt8))), (.own 120), (.own 111)])), (111, (.row 9 1 (l_37.map elStr))), (120, (.row 25 5 (l_36.map encVal)))]) (by kernel_rfl) ?_
  refine T_seqJ (α := (Int) ⊕ (Unit)) (fun v => match v with | (.inl n_68) => (mk 27 [(0, (rf 3 0)), (5, (dt (.str s_63))), (6, (di n_68)), (7, (dt (.con .nilIface)))] [(0, (.obj (tabP Tryd.prog))), (1, (.obj (errP 1))), (2, (.obj (errP 2))), (3, (.var [(.dat (.sl 1 (s_66.map elB)))])), (8, (.var [(.dat (I v_33)), (.dat (I 0)), (.dat (.str ([] : List UInt8))), (.own 120), (.own 111)])), (111, (.row 9 1 (l_37.map elStr))), (120, (.row 25 5 (l_36.map encVal)))]) | (.inr _) => (mk 27 [(0, (rf 3 0)), (5, (dt (.str s_63))), (6, (dt .any)), (7, (dt (.iface 100 .any)))] [(0, (.obj (tabP Tryd.prog))), (1, (.obj (errP 1))), (2, (.obj (errP 2))), (3, (.var [(.dat (.sl 1 (s_66.map elB)))])), (8, (.var [(.dat (I v_33)), (.dat (I 0)), (.dat (.str ([] : List UInt8))), (.own 120), (.own 111)])), (111, (.row 9 1 (l_37.map elStr))), (120, (.row 25 5 (l_36.map encVal)))])) (fun v => match v with | (.inl n_68) => g__codec_reader_value_s_j7 s_63 s_66 l_37 depth_2 rc l_36 v_33 n_68 = some y1 | (.inr _) => g__codec_reader_value_s_j8 s_63 s_66 v_33 l_37 l_36 = some y1) (fun v h => ?_) ?_
  rcases v with v | v
  revert h; revert v; intro n_68 h
  refine T_seq (T_parts ?_)
  refine TL_part 2 [] (mk 27 [(0, (rf 3 0)), (5, (dt (.str s_63))), (6, (di n_68)), (7, (dt (.con .nilIface))), (16, (rf 3 0)), (17, (dt (.con .nilIface)))] [(0, (.obj (tabP Tryd.prog))), (1, (.obj (errP 1))), (2, (.obj (errP 2))), (3, (.var [(.dat (.sl 1 (s_66.map elB)))])), (8, (.var [(.dat (I v_33)), (.dat (I 0)), (.dat (.str ([] : List UInt8))), (.own 120), (.own 111)])), (111, (.row 9 1 (l_37.map elStr))), (120, (.row 25 5 (l_36.map encVal)))]) _ (by kernel_rfl) (z4 zt) rfl ?_
  refine TL_neNil 84 84 18 false rfl rfl rfl (by kernel_rfl) (.inr ⟨rfl, by kernel_rfl⟩) ?_
  refine TL_turn [] [5, 6, 16, 18] [] (mk 27 [(5, (dt (.str s_63))), (6, (di n_68)), (16, (rf 3 0)), (18, (db false))] [(0, (.obj (tabP Tryd.prog))), (1, (.obj (errP 1))), (2, (.obj (errP 2))), (3, (.var [(.dat (.sl 1 (s_66.map elB)))])), (8, (.var [(.dat (I v_33)), (.dat (I 0)), (.dat (.str ([] : List UInt8))), (.own 120), (.own 111)])), (111, (.row 9 1 (l_37.map elStr))), (120, (.row 25 5 (l_36.map encVal)))]) (by kernel_rfl) ?_
  refine TL_part 2 [] (mk 27 [(5, (dt (.str s_63))), (6, (di n_68)), (16, (rf 3 0)), (18, (db false)), (19, (db false)), (20, (di n_68))] [(0, (.obj (tabP Tryd.prog))), (1, (.obj (errP 1))), (2, (.obj (errP 2))), (3, (.var [(.dat (.sl 1 (s_66.map elB)))])), (8, (.var [(.dat (I v_33)), (.dat (I 0)), (.dat (.str ([] : List UInt8))), (.own 120), (.own 111)])), (111, (.row 9 1 (l_37.map elStr))), (120, (.row 25 5 (l_36.map encVal)))]) _ (by kernel_rfl) (z2 (zc (gd_ff (rfl : false = false)) (z1 zt))) rfl ?_
  refine TL_guard (p := (false == false) = true) (by kernel_rfl) (gd_ff (rfl : false = false)) ?_
  obtain ⟨c69, h⟩ := ckI_in h
  refine TL_fmtInt Tryd.lformat 21 0 n_68 rfl rfl rfl (by kernel_rfl) (by kernel_rfl) (by kernel_rfl) c69 (by kernel_rfl) ?_
  refine TL_turn [] [5, 6, 16, 19, 21] [] (mk 27 [(5, (dt (.str s_63))), (6, (di n_68)), (16, (rf 3 0)), (19, (db false)), (21, (dt (.str (Lib.itoa n_68))))] [(0, (.obj (tabP Tryd.prog))), (1, (.obj (errP 1))), (2, (.obj (errP 2))), (3, (.var [(.dat (.sl 1 (s_66.map elB)))])), (8, (.var [(.dat (I v_33)), (.dat (I 0)), (.dat (.str ([] : List UInt8))), (.own 120), (.own 111)])), (111, (.row 9 1 (l_37.map elStr))), (120, (.row 25 5 (l_36.map encVal)))]) (by kernel_rfl) ?_
  refine TL_part 3 [zn, zn, (zd (B false))] (mk 27 [(5, (dt (.str s_63))), (6, (di n_68)), (16, (rf 3 0)), (19, (db false)), (21, (dt (.str (Lib.itoa n_68)))), (22, (dt (.str s_63))), (23, (db (!((Lib.itoa n_68) == s_63)))), (24, (db (!((Lib.itoa n_68) == s_63))))] [(0, (.obj (tabP Tryd.prog))), (1, (.obj (errP 1))), (2, (.obj (errP 2))), (3, (.var [(.dat (.sl 1 (s_66.map elB)))])), (8, (.var [(.dat (I v_33)), (.dat (I 0)), (.dat (.str ([] : List UInt8))), (.own 120), (.own 111)])), (111, (.row 9 1 (l_37.map elStr))), (120, (.row 25 5 (l_36.map encVal)))]) _ (by kernel_rfl) (zc (gd_ff (rfl : false = false)) (z1 (zc (gd_ff (rfl : false = false)) (z2 (zc (rfl : false = false) zt))))) rfl ?_
  refine TL_inlineP 187 33 [] Tryd.f33 _ rfl rfl (by kernel_rfl) Tryd.func33 rfl rfl (by decide) ?_
  refine T_turn [] [0, 1] [] (mk 6 [(0, (rf 3 0)), (1, (db (!((Lib.itoa n_68) == s_63))))] [(0, (.obj (tabP Tryd.prog))), (1, (.obj (errP 1))), (2, (.obj (errP 2))), (3, (.var [(.dat (.sl 1 (s_66.map elB)))])), (8, (.var [(.dat (I v_33)), (.dat (I 0)), (.dat (.str ([] : List UInt8))), (.own 120), (.own 111)])), (111, (.row 9 1 (l_37.map elStr))), (120, (.row 25 5 (l_36.map encVal)))]) (by kernel_rfl) ?_
  refine T_reg [] [4] [] (mk 6 [(4, (db (!((Lib.itoa n_68) == s_63))))] [(0, (.obj (tabP Tryd.prog))), (1, (.obj (errP 1))), (2, (.obj (errP 2))), (3, (.var [(.dat (.sl 1 (s_66.map elB)))])), (8, (.var [(.dat (I v_33)), (.dat (I 0)), (.dat (.str ([] : List UInt8))), (.own 120), (.own 111)])), (111, (.row 9 1 (l_37.map elStr))), (120, (.row 25 5 (l_36.map encVal)))]) _ (by kernel_rfl) (z2 zt) ?_
  refine T_cond (!((Lib.itoa n_68) == s_63)) (by kernel_rfl) (fun b70 => ?_) (fun b70 => ?_)
  replace h := ite_t b70 h
  refine T_parts ?_
  refine TL_part 1 [] (mk 6 [(4, (db (!((Lib.itoa n_68) == s_63)))), (5, (dt (.iface 29 (I 20))))] [(0, (.obj (tabP Tryd.prog))), (1, (.obj (errP 1))), (2, (.obj (errP 2))), (3, (.var [(.dat (.sl 1 (s_66.map elB)))])), (8, (.var [(.dat (I v_33)), (.dat (I 0)), (.dat (.str ([] : List UInt8))), (.own 120), (.own 111)])), (111, (.row 9 1 (l_37.map elStr))), (120, (.row 25 5 (l_36.map encVal)))]) _ (by kernel_rfl) (z2 zt) rfl ?_
  refine TL_panic 29 (I 20) rfl rfl (by kernel_rfl) ?_
  replace h := up_inv h hy1
  obtain rfl := some_inv h
  exact (show _ ∧ _ from ⟨rfl, (show _ ∧ _ from ⟨rfl, (show _ ∧ _ from ⟨rfl, (show _ ∧ _ from ⟨rfl, ⟨_, rfl, lk3 (by kernel_rfl) (by kernel_rfl) (by kernel_rfl)⟩⟩)⟩)⟩)⟩)
  replace h := ite_f b70 h
  refine T_skip ?_
  refine ⟨[], by kernel_rfl, ?_⟩
  refine TL_turn [] [6, 25] [] (mk 27 [(6, (di n_68)), (25, (.tup []))] [(0, (.obj (tabP Tryd.prog))), (1, (.obj (errP 1))), (2, (.obj (errP 2))), (3, (.var [(.dat (.sl 1 (s_66.map elB)))])), (8, (.var [(.dat (I v_33)), (.dat (I 0)), (.dat (.str ([] : List UInt8))), (.own 120), (.own 111)])), (111, (.row 9 1 (l_37.map elStr))), (120, (.row 25 5 (l_36.map encVal)))]) (by kernel_rfl) ?_
  refine TL_nilQ ?_
  refine T_turn [] [6] [] (mk 27 [(6, (di n_68))] [(0, (.obj (tabP Tryd.prog))), (1, (.obj (errP 1))), (2, (.obj (errP 2))), (3, (.var [(.dat (.sl 1 (s_66.map elB)))])), (8, (.var [(.dat (I v_33)), (.dat (I 0)), (.dat (.str ([] : List UInt8))), (.own 120), (.own 111)])), (111, (.row 9 1 (l_37.map elStr))), (120, (.row 25 5 (l_36.map encVal)))]) (by kernel_rfl) ?_
  refine T_reg [] [4] [] (mk 27 [(4, (di n_68))] [(0, (.obj (tabP Tryd.prog))), (1, (.obj (errP 1))), (2, (.obj (errP 2))), (3, (.var [(.dat (.sl 1 (s_66.map elB)))])), (8, (.var [(.dat (I v_33)), (.dat (I 0)), (.dat (.str ([] : List UInt8))), (.own 120), (.own 111)])), (111, (.row 9 1 (l_37.map elStr))), (120, (.row 25 5 (l_36.map encVal)))]) _ (by kernel_rfl) (z4 zt) ?_
  refine T_ret ?_
  refine ⟨[(di n_68)], by kernel_rfl, ?_⟩
  refine TL_turn [] [0, 6] [] (mk 38 [(0, (rf 3 0)), (6, (di n_68))] [(0, (.obj (tabP Tryd.prog))), (1, (.obj (errP 1))), (2, (.obj (errP 2))), (3, (.var [(.dat (.sl 1 (s_66.map elB)))])), (8, (.var [(.dat (I v_33)), (.dat (I 0)), (.dat (.str ([] : List UInt8))), (.own 120), (.own 111)])), (111, (.row 9 1 (l_37.map elStr))), (120, (.row 25 5 (l_36.map encVal)))]) (by kernel_rfl) ?_
  refine TL_part 1 [] (mk 38 [(0, (rf 3 0)), (3, (di n_68)), (6, (di n_68))] [(0, (.obj (tabP Tryd.prog))), (1, (.obj (errP 1))), (2, (.obj (errP 2))), (3, (.var [(.dat (.sl 1 (s_66.map elB)))])), (8, (.var [(.dat (I v_33)), (.dat (I 0)), (.dat (.str ([] : List UInt8))), (.own 120), (.own 111)])), (111, (.row 9 1 (l_37.map elStr))), (120, (.row 25 5 (l_36.map encVal)))]) _ (by kernel_rfl) (z2 zt) rfl ?_
  refine TL_nilQ ?_
  refine T_turn [] [0, 3] [] (mk 38 [(0, (rf 3 0)), (3, (di n_68))] [(0, (.obj (tabP Tryd.prog))), (1, (.obj (errP 1))), (2, (.obj (errP 2))), (3, (.var [(.dat (.sl 1 (s_66.map elB)))])), (8, (.var [(.dat (I v_33)), (.dat (I 0)), (.dat (.str ([] : List UInt8))), (.own 120), (.own 111)])), (111, (.row 9 1 (l_37.map elStr))), (120, (.row 25 5 (l_36.map encVal)))]) (by kernel_rfl) ?_
  rcases Bool.eq_false_or_eq_true (decide (n_68 < 0)) with b71 | b71
  replace h := ite_t b71 h
  refine T_seq (T_parts ?_)
  refine TL_part 12 [zn, zn, zn, zn, zg, zg, zg, zg, zg, zg, zg, (zd (B true))] (mk 38 [(0, (rf 3 0)), (3, (di n_68)), (7, (rf 3 0)), (8, (di n_68)), (9, (db (decide (n_68 < 0)))), (10, (db (decide (n_68 < 0)))), (11, (dt (.tup []))), (12, (dt (.tup []))), (13, (dt (.tup []))), (14, (dt (.tup []))), (15, (dt (.tup []))), (16, (dt (.tup []))), (17, (dt (.tup []))), (18, (db true))] [(0, (.obj (tabP Tryd.prog))), (1, (.obj (errP 1))), (2, (.obj (errP 2))), (3, (.var [(.dat (.sl 1 (s_66.map elB)))])), (8, (.var [(.dat (I v_33)), (.dat (I 0)), (.dat (.str ([] : List UInt8))), (.own 120), (.own 111)])), (111, (.row 9 1 (l_37.map elStr))), (120, (.row 25 5 (l_36.map encVal)))]) _ (by kernel_rfl) (z8 (zc (gd_tf b71) (zc (gd_tf b71) (zc (gd_tf b71) (zc (gd_tf b71) (zc (gd_tf b71) (zc (gd_tf b71) (zc (gd_tf b71) (z1 (zc b71 zt)))))))))) rfl ?_
  refine TL_inlineP 160 33 [] Tryd.f33 _ rfl rfl (by kernel_rfl) Tryd.func33 rfl rfl (by decide) ?_
  refine T_turn [] [0, 1] [] (mk 6 [(0, (rf 3 0)), (1, (db true))] [(0, (.obj (tabP Tryd.prog))), (1, (.obj (errP 1))), (2, (.obj (errP 2))), (3, (.var [(.dat (.sl 1 (s_66.map elB)))])), (8, (.var [(.dat (I v_33)), (.dat (I 0)), (.dat (.str ([] : List UInt8))), (.own 120), (.own 111)])), (111, (.row 9 1 (l_37.map elStr))), (120, (.row 25 5 (l_36.map encVal)))]) (by kernel_rfl) ?_
  refine T_reg [] [4] [] (mk 6 [(4, (db true))] [(0, (.obj (tabP Tryd.prog))), (1, (.obj (errP 1))), (2, (.obj (errP 2))), (3, (.var [(.dat (.sl 1 (s_66.map elB)))])), (8, (.var [(.dat (I v_33)), (.dat (I 0)), (.dat (.str ([] : List UInt8))), (.own 120), (.own 111)])), (111, (.row 9 1 (l_37.map elStr))), (120, (.row 25 5 (l_36.map encVal)))]) _ (by kernel_rfl) (z2 zt) ?_
  refine T_cond true (by kernel_rfl) (fun _ => ?_) (fun h => absurd (h.symm.trans (rfl : true = true)) (by decide))
  refine T_parts ?_
  refine TL_part 1 [] (mk 6 [(4, (db true)), (5, (dt (.iface 29 (I 20))))] [(0, (.obj (tabP Tryd.prog))), (1, (.obj (errP 1))), (2, (.obj (errP 2))), (3, (.var [(.dat (.sl 1 (s_66.map elB)))])), (8, (.var [(.dat (I v_33)), (.dat (I 0)), (.dat (.str ([] : List UInt8))), (.own 120), (.own 111)])), (111, (.row 9 1 (l_37.map elStr))), (120, (.row 25 5 (l_36.map encVal)))]) _ (by kernel_rfl) (z2 zt) rfl ?_
  refine TL_panic 29 (I 20) rfl rfl (by kernel_rfl) ?_
  replace h := up_inv h hy1
  obtain rfl := some_inv h
  exact (show _ ∧ _ from ⟨rfl, (show _ ∧ _ from ⟨rfl, (show _ ∧ _ from ⟨rfl, ⟨_, rfl, lk3 (by kernel_rfl) (by kernel_rfl) (by kernel_rfl)⟩⟩)⟩)⟩)
  replace h := ite_f b71 h
  refine T_seq (T_parts ?_)
  refine TL_part 12 (hl 12 [(9, (zd (I ((s_66.length : Nat) : Int)))), (11, (zd (B false)))]) (mk 38 [(0, (rf 3 0)), (3, (di n_68)), (7, (rf 3 0)), (8, (di n_68)), (9, (db (decide (n_68 < 0)))), (10, (db (decide (n_68 < 0)))), (11, (di n_68)), (12, (rf 3 0)), (13, (rf 3 0)), (14, (rf 3 0)), (15, (dt (.sl 1 (s_66.map elB)))), (16, (di ((s_66.length : Nat) : Int))), (17, (db (decide (n_68 > ((s_66.length : Nat) : Int))))), (18, (db (decide (n_68 > ((s_66.length : Nat) : Int)))))] [(0, (.obj (tabP Tryd.prog))), (1, (.obj (errP 1))), (2, (.obj (errP 2))), (3, (.var [(.dat (.sl 1 (s_66.map elB)))])), (8, (.var [(.dat (I v_33)), (.dat (I 0)), (.dat (.str ([] : List UInt8))), (.own 120), (.own 111)])), (111, (.row 9 1 (l_37.map elStr))), (120, (.row 25 5 (l_36.map encVal)))]) _ (by kernel_rfl) (z8 (zc (gd_ff b71) (z1 (zc (gd_ff b71) (z1 (zc (gd_ff b71) (z1 (zc (gd_ff b71) (z1 (zc (gd_ff b71) (z1 (zc (gd_ff b71) (zc (len_s elB s_66) (zc (gd_ff b71) (z2 (zc b71 zt)))))))))))))))) rfl ?_
  refine TL_inlineP 160 33 [] Tryd.f33 _ rfl rfl (by kernel_rfl) Tryd.func33 rfl rfl (by decide) ?_
  refine T_turn [] [0, 1] [] (mk 6 [(0, (rf 3 0)), (1, (db (decide (n_68 > ((s_66.length : Nat) : Int)))))] [(0, (.obj (tabP Tryd.prog))), (1, (.obj (errP 1))), (2, (.obj (errP 2))), (3, (.var [(.dat (.sl 1 (s_66.map elB)))])), (8, (.var [(.dat (I v_33)), (.dat (I 0)), (.dat (.str ([] : List UInt8))), (.own 120), (.own 111)])), (111, (.row 9 1 (l_37.map elStr))), (120, (.row 25 5 (l_36.map encVal)))]) (by kernel_rfl) ?_
  refine T_reg [] [4] [] (mk 6 [(4, (db (decide (n_68 > ((s_66.length : Nat) : Int)))))] [(0, (.obj (tabP Tryd.prog))), (1, (.obj (errP 1))), (2, (.obj (errP 2))), (3, (.var [(.dat (.sl 1 (s_66.map elB)))])), (8, (.var [(.dat (I v_33)), (.dat (I 0)), (.dat (.str ([] : List UInt8))), (.own 120), (.own 111)])), (111, (.row 9 1 (l_37.map elStr))), (120, (.row 25 5 (l_36.map encVal)))]) _ (by kernel_rfl) (z2 zt) ?_
  refine T_cond (decide (n_68 > ((s_66.length : Nat) : Int))) (by kernel_rfl) (fun b72 => ?_) (fun b72 => ?_)
  replace h := ite_t b72 h
  refine T_parts ?_
  refine TL_part 1 [] (mk 6 [(4, (db (decide (n_68 > ((s_66.length : Nat) : Int))))), (5, (dt (.iface 29 (I 20))))] [(0, (.obj (tabP Tryd.prog))), (1, (.obj (errP 1))), (2, (.obj (errP 2))), (3, (.var [(.dat (.sl 1 (s_66.map elB)))])), (8, (.var [(.dat (I v_33)), (.dat (I 0)), (.dat (.str ([] : List UInt8))), (.own 120), (.own 111)])), (111, (.row 9 1 (l_37.map elStr))), (120, (.row 25 5 (l_36.map encVal)))]) _ (by kernel_rfl) (z2 zt) rfl ?_
  refine TL_panic 29 (I 20) rfl rfl (by kernel_rfl) ?_
  replace h := up_inv h hy1
  obtain rfl := some_inv h
  exact (show _ ∧ _ from ⟨rfl, (show _ ∧ _ from ⟨rfl, (show _ ∧ _ from ⟨rfl, ⟨_, rfl, lk3 (by kernel_rfl) (by kernel_rfl) (by kernel_rfl)⟩⟩)⟩)⟩)
  replace h := ite_f b72 h
  refine T_skip ?_
  refine ⟨[], by kernel_rfl, ?_⟩
  refine TL_turn [] [0, 3, 19] [] (mk 38 [(0, (rf 3 0)), (3, (di n_68)), (19, (.tup []))] [(0, (.obj (tabP Tryd.prog))), (1, (.obj (errP 1))), (2, (.obj (errP 2))), (3, (.var [(.dat (.sl 1 (s_66.map elB)))])), (8, (.var [(.dat (I v_33)), (.dat (I 0)), (.dat (.str ([] : List UInt8))), (.own 120), (.own 111)])), (111, (.row 9 1 (l_37.map elStr))), (120, (.row 25 5 (l_36.map encVal)))]) (by kernel_rfl) ?_
  refine TL_nilQ ?_
  refine T_turn [] [0, 3] [] (mk 38 [(0, (rf 3 0)), (3, (di n_68))] [(0, (.obj (tabP Tryd.prog))), (1, (.obj (errP 1))), (2, (.obj (errP 2))), (3, (.var [(.dat (.sl 1 (s_66.map elB)))])), (8, (.var [(.dat (I v_33)), (.dat (I 0)), (.dat (.str ([] : List UInt8))), (.own 120), (.own 111)])), (111, (.row 9 1 (l_37.map elStr))), (120, (.row 25 5 (l_36.map encVal)))]) (by kernel_rfl) ?_
  obtain ⟨s_73, e74, h⟩ := sbm_inv 1 elB h
  refine T_reg (hl 7 [(6, (zd (.sl 1 (s_73.map elB))))]) [0, 3, 4] [] (mk 38 [(0, (rf 3 0)), (3, (di n_68)), (4, (dt (.sl 1 (s_73.map elB))))] [(0, (.obj (tabP Tryd.prog))), (1, (.obj (errP 1))), (2, (.obj (errP 2))), (3, (.var [(.dat (.sl 1 (s_66.map elB)))])), (8, (.var [(.dat (I v_33)), (.dat (I 0)), (.dat (.str ([] : List UInt8))), (.own 120), (.own 111)])), (111, (.row 9 1 (l_37.map elStr))), (120, (.row 25 5 (l_36.map encVal)))]) _ (by kernel_rfl) (z8 (z5 (zc e74 (z2 zt)))) ?_
  obtain ⟨s_75, e76, h⟩ := sb_inv 1 elB h
  refine T_reg (hl 7 [(6, (zd (.sl 1 (s_75.map elB))))]) [4] [] (mk 38 [(4, (dt (.sl 1 (s_73.map elB))))] [(0, (.obj (tabP Tryd.prog))), (1, (.obj (errP 1))), (2, (.obj (errP 2))), (3, (.var [(.dat (.sl 1 (s_75.map elB)))])), (8, (.var [(.dat (I v_33)), (.dat (I 0)), (.dat (.str ([] : List UInt8))), (.own 120), (.own 111)])), (111, (.row 9 1 (l_37.map elStr))), (120, (.row 25 5 (l_36.map encVal)))]) _ (by kernel_rfl) (z8 (z5 (zc e76 (z6 zt)))) ?_
  refine T_reg [zn, (zd (.str s_73))] [2] [] (mk 38 [(2, (dt (.str s_73)))] [(0, (.obj (tabP Tryd.prog))), (1, (.obj (errP 1))), (2, (.obj (errP 2))), (3, (.var [(.dat (.sl 1 (s_75.map elB)))])), (8, (.var [(.dat (I v_33)), (.dat (I 0)), (.dat (.str ([] : List UInt8))), (.own 120), (.own 111)])), (111, (.row 9 1 (l_37.map elStr))), (120, (.row 25 5 (l_36.map encVal)))]) _ (by kernel_rfl) (z3 (zc (rfl : s_73.map elB = s_73.map elB) (z2 zt))) ?_
  refine T_ret ?_
  refine ⟨[(dt (.str s_73))], by kernel_rfl, ?_⟩
  refine TL_turn [] [0, 1, 4, 84] [] (mk 118 [(0, (rf 3 0)), (1, (di depth_2)), (4, (rf 8 0)), (84, (dt (.str s_73)))] [(0, (.obj (tabP Tryd.prog))), (1, (.obj (errP 1))), (2, (.obj (errP 2))), (3, (.var [(.dat (.sl 1 (s_75.map elB)))])), (8, (.var [(.dat (I v_33)), (.dat (I 0)), (.dat (.str ([] : List UInt8))), (.own 120), (.own 111)])), (111, (.row 9 1 (l_37.map elStr))), (120, (.row 25 5 (l_36.map encVal)))]) (by kernel_rfl) ?_
  refine TL_part 1 [] (mk 118 [(0, (rf 3 0)), (1, (di depth_2)), (4, (rf 8 0)), (6, (dt (.str s_73))), (84, (dt (.str s_73)))] [(0, (.obj (tabP Tryd.prog))), (1, (.obj (errP 1))), (2, (.obj (errP 2))), (3, (.var [(.dat (.sl 1 (s_75.map elB)))])), (8, (.var [(.dat (I v_33)), (.dat (I 0)), (.dat (.str ([] : List UInt8))), (.own 120), (.own 111)])), (111, (.row 9 1 (l_37.map elStr))), (120, (.row 25 5 (l_36.map encVal)))]) _ (by kernel_rfl) (z2 zt) rfl ?_
  refine TL_nilQ ?_
  refine T_turn [] [0, 1, 4, 6] [] (mk 118 [(0, (rf 3 0)), (1, (di depth_2)), (4, (rf 8 0)), (6, (dt (.str s_73)))] [(0, (.obj (tabP Tryd.prog))), (1, (.obj (errP 1))), (2, (.obj (errP 2))), (3, (.var [(.dat (.sl 1 (s_75.map elB)))])), (8, (.var [(.dat (I v_33)), (.dat (I 0)), (.dat (.str ([] : List UInt8))), (.own 120), (.own 111)])), (111, (.row 9 1 (l_37.map elStr))), (120, (.row 25 5 (l_36.map encVal)))]) (by kernel_rfl) ?_
  refine T_seqJ (α := Unit) (fun (_ : Unit) => (mk 118 [(0, (rf 3 0)), (1, (di depth_2)), (4, (rf 8 0)), (6, (dt (.str s_73)))] [(0, (.obj (tabP Tryd.prog))), (1, (.obj (errP 1))), (2, (.obj (errP 2))), (3, (.var [(.dat (.sl 1 (s_75.map elB)))])), (8, (.var [(.dat (I v_33)), (.dat (I 0)), (.dat (.str ([] : List UInt8))), (.own 120), (.own 111)])), (111, (.row 9 1 (l_37.map elStr))), (120, (.row 25 5 (l_36.map encVal)))])) (fun (_ : Unit) => g__codec_reader_value_s_j9 l_37 s_73 depth_2 rc l_36 v_33 s_75 = some y1) (fun v h => ?_) ?_
  obtain ⟨c77, h⟩ := ck_inv h
  exact T_regJ (hl 5 [(4, (zd (.sl 1 ((l_37 ++ [s_73]).map elStr))))]) [] [0, 1, 4] [110] [0, 1, 2, 3, 8, 111, 120] _ _ (by kernel_rfl) (z7 (zc (show dfill (fun i => some (i * 1, 1)) (List.replicate (1 * 1) .junk) [(0, [(.dat (.str s_73))])] = some ((flat ([s_73].map elStr)).map .dat) from rfl) (z1 (zc (app_s elStr elStr_one l_37 ([s_73]) c77) (z4 zt))))) (fun s hs => Exists.intro (s_75, (l_37 ++ [s_73])) (And.intro h hs))
  rcases Bool.eq_false_or_eq_true (decide (((l_37.length : Nat) : Int) > 0)) with b78 | b78
  replace h := ite_t b78 h
  obtain ⟨c79, h⟩ := ckI_inv h
  obtain ⟨x_80, e81, e82, e83, h⟩ := gt_inv elStr h
  refine T_parts ?_
  refine TL_part 17 (hl 17 [(3, (zd (I ((l_37.length : Nat) : Int)))), (10, (zd (I ((l_37.length : Nat) : Int)))), (11, (zd (I (((l_37.length : Nat) : Int) - 1)))), (13, (zd (.str x_80))), (16, (zd (B true)))]) (mk 118 [(0, (rf 3 0)), (1, (di depth_2)), (4, (rf 8 0)), (6, (dt (.str s_73))), (85, (rf 3 0)), (86, (rf 8 4)), (87, (ow 111)), (88, (di ((l_37.length : Nat) : Int))), (89, (db (decide (((l_37.length : Nat) : Int) > 0)))), (90, (db (decide (((l_37.length : Nat) : Int) > 0)))), (91, (rf 8 4)), (92, (ow 111)), (93, (rf 8 4)), (94, (ow 111)), (95, (di ((l_37.length : Nat) : Int))), (96, (di (((l_37.length : Nat) : Int) - 1))), (97, (.one (.rref 111 ((((l_37.length : Nat) : Int) - 1)).toNat 0))), (98, (dt (.str x_80))), (99, (dt (.str s_73))), (100, (db (!(Op.bytesLess x_80 s_73)))), (101, (db (!(Op.bytesLess x_80 s_73))))] [(0, (.obj (tabP Tryd.prog))), (1, (.obj (errP 1))), (2, (.obj (errP 2))), (3, (.var [(.dat (.sl 1 (s_75.map elB)))])), (8, (.var [(.dat (I v_33)), (.dat (I 0)), (.dat (.str ([] : List UInt8))), (.own 120), (.own 111)])), (111, (.row 9 1 (l_37.map elStr))), (120, (.row 25 5 (l_36.map encVal)))]) _ (by kernel_rfl) (z7 (zc (len_s elStr l_37) (z4 (zc (gd_tt b78) (z1 (zc (gd_tt b78) (z1 (zc (gd_tt b78) (z1 (zc (gd_tt b78) (z1 (zc (gd_tt b78) (zc (len_s elStr l_37) (zc (gd_tt b78) (zc c79 (zc (gd_tt b78) (zc e82 (zc (gd_tt b78) (zc e83 (zc (gd_tt b78) (z1 (zc (gd_tt b78) (z2 (zc b78 zt)))))))))))))))))))))))) rfl ?_
  refine TL_inlineP 122 33 [] Tryd.f33 _ rfl rfl (by kernel_rfl) Tryd.func33 rfl rfl (by decide) ?_
  refine T_turn [] [0, 1] [] (mk 6 [(0, (rf 3 0)), (1, (db (!(Op.bytesLess x_80 s_73))))] [(0, (.obj (tabP Tryd.prog))), (1, (.obj (errP 1))), (2, (.obj (errP 2))), (3, (.var [(.dat (.sl 1 (s_75.map elB)))])), (8, (.var [(.dat (I v_33)), (.dat (I 0)), (.dat (.str ([] : List UInt8))), (.own 120), (.own 111)])), (111, (.row 9 1 (l_37.map elStr))), (120, (.row 25 5 (l_36.map encVal)))]) (by kernel_rfl) ?_
  refine T_reg [] [4] [] (mk 6 [(4, (db (!(Op.bytesLess x_80 s_73))))] [(0, (.obj (tabP Tryd.prog))), (1, (.obj (errP 1))), (2, (.obj (errP 2))), (3, (.var [(.dat (.sl 1 (s_75.map elB)))])), (8, (.var [(.dat (I v_33)), (.dat (I 0)), (.dat (.str ([] : List UInt8))), (.own 120), (.own 111)])), (111, (.row 9 1 (l_37.map elStr))), (120, (.row 25 5 (l_36.map encVal)))]) _ (by kernel_rfl) (z2 zt) ?_
  refine T_cond (!(Op.bytesLess x_80 s_73)) (by kernel_rfl) (fun b84 => ?_) (fun b84 => ?_)
  replace h := ite_t b84 h
  refine T_parts ?_
  refine TL_part 1 [] (mk 6 [(4, (db (!(Op.bytesLess x_80 s_73)))), (5, (dt (.iface 29 (I 20))))] [(0, (.obj (tabP Tryd.prog))), (1, (.obj (errP 1))), (2, (.obj (errP 2))), (3, (.var [(.dat (.sl 1 (s_75.map elB)))])), (8, (.var [(.dat (I v_33)), (.dat (I 0)), (.dat (.str ([] : List UInt8))), (.own 120), (.own 111)])), (111, (.row 9 1 (l_37.map elStr))), (120, (.row 25 5 (l_36.map encVal)))]) _ (by kernel_rfl) (z2 zt) rfl ?_
  refine TL_panic 29 (I 20) rfl rfl (by kernel_rfl) ?_
  replace h := up_inv h hy1
  obtain rfl := some_inv h
  exact (show _ ∧ _ from ⟨rfl, (show _ ∧ _ from ⟨rfl, ⟨_, rfl, lk3 (by kernel_rfl) (by kernel_rfl) (by kernel_rfl)⟩⟩)⟩)
  replace h := ite_f b84 h
  refine T_skip ?_
  refine ⟨[], by kernel_rfl, ?_⟩
  refine TL_turn [] [0, 1, 4, 6, 102] [] (mk 118 [(0, (rf 3 0)), (1, (di depth_2)), (4, (rf 8 0)), (6, (dt (.str s_73))), (102, (.tup []))] [(0, (.obj (tabP Tryd.prog))), (1, (.obj (errP 1))), (2, (.obj (errP 2))), (3, (.var [(.dat (.sl 1 (s_75.map elB)))])), (8, (.var [(.dat (I v_33)), (.dat (I 0)), (.dat (.str ([] : List UInt8))), (.own 120), (.own 111)])), (111, (.row 9 1 (l_37.map elStr))), (120, (.row 25 5 (l_36.map encVal)))]) (by kernel_rfl) ?_
  refine TL_nilQ ?_
  exact Exists.intro () (And.intro h (arr [] [0, 1, 4, 6] [] [0, 1, 2, 3, 8, 111, 120] (by kernel_rfl)))
  replace h := ite_f b78 h
  refine T_parts ?_
  refine TL_part 17 [zn, zn, zn, (zd (I ((l_37.length : Nat) : Int))), zn, zn, zg, zg, zg, zg, zg, zg, zg, zg, zg, zg, (zd (B false))] (mk 118 [(0, (rf 3 0)), (1, (di depth_2)), (4, (rf 8 0)), (6, (dt (.str s_73))), (85, (rf 3 0)), (86, (rf 8 4)), (87, (ow 111)), (88, (di ((l_37.length : Nat) : Int))), (89, (db (decide (((l_37.length : Nat) : Int) > 0)))), (90, (db (decide (((l_37.length : Nat) : Int) > 0)))), (91, (dt (.tup []))), (92, (dt (.tup []))), (93, (dt (.tup []))), (94, (dt (.tup []))), (95, (dt (.tup []))), (96, (dt (.tup []))), (97, (dt (.tup []))), (98, (dt (.tup []))), (99, (dt (.tup []))), (100, (dt (.tup []))), (101, (db false))] [(0, (.obj (tabP Tryd.prog))), (1, (.obj (errP 1))), (2, (.obj (errP 2))), (3, (.var [(.dat (.sl 1 (s_75.map elB)))])), (8, (.var [(.dat (I v_33)), (.dat (I 0)), (.dat (.str ([] : List UInt8))), (.own 120), (.own 111)])), (111, (.row 9 1 (l_37.map elStr))), (120, (.row 25 5 (l_36.map encVal)))]) _ (by kernel_rfl) (z7 (zc (len_s elStr l_37) (z4 (zc (gd_ft b78) (zc (gd_ft b78) (zc (gd_ft b78) (zc (gd_ft b78) (zc (gd_ft b78) (zc (gd_ft b78) (zc (gd_ft b78) (zc (gd_ft b78) (zc (gd_ft b78) (zc (gd_ft b78) (z1 (zc b78 zt))))))))))))))) rfl ?_
  refine TL_inlineP 122 33 [] Tryd.f33 _ rfl rfl (by kernel_rfl) Tryd.func33 rfl rfl (by decide) ?_
  refine T_turn [] [0, 1] [] (mk 6 [(0, (rf 3 0)), (1, (db false))] [(0, (.obj (tabP Tryd.prog))), (1, (.obj (errP 1))), (2, (.obj (errP 2))), (3, (.var [(.dat (.sl 1 (s_75.map elB)))])), (8, (.var [(.dat (I v_33)), (.dat (I 0)), (.dat (.str ([] : List UInt8))), (.own 120), (.own 111)])), (111, (.row 9 1 (l_37.map elStr))), (120, (.row 25 5 (l_36.map encVal)))]) (by kernel_rfl) ?_
  refine T_reg [] [4] [] (mk 6 [(4, (db false))] [(0, (.obj (tabP Tryd.prog))), (1, (.obj (errP 1))), (2, (.obj (errP 2))), (3, (.var [(.dat (.sl 1 (s_75.map elB)))])), (8, (.var [(.dat (I v_33)), (.dat (I 0)), (.dat (.str ([] : List UInt8))), (.own 120), (.own 111)])), (111, (.row 9 1 (l_37.map elStr))), (120, (.row 25 5 (l_36.map encVal)))]) _ (by kernel_rfl) (z2 zt) ?_
  refine T_cond false (by kernel_rfl) (fun h => absurd (h.symm.trans (rfl : false = false)) (by decide)) (fun _ => ?_)
  refine T_skip ?_
  refine ⟨[], by kernel_rfl, ?_⟩
  refine TL_turn [] [0, 1, 4, 6, 102] [] (mk 118 [(0, (rf 3 0)), (1, (di depth_2)), (4, (rf 8 0)), (6, (dt (.str s_73))), (102, (.tup []))] [(0, (.obj (tabP Tryd.prog))), (1, (.obj (errP 1))), (2, (.obj (errP 2))), (3, (.var [(.dat (.sl 1 (s_75.map elB)))])), (8, (.var [(.dat (I v_33)), (.dat (I 0)), (.dat (.str ([] : List UInt8))), (.own 120), (.own 111)])), (111, (.row 9 1 (l_37.map elStr))), (120, (.row 25 5 (l_36.map encVal)))]) (by kernel_rfl) ?_
  refine TL_nilQ ?_
  exact Exists.intro () (And.intro h (arr [] [0, 1, 4, 6] [] [0, 1, 2, 3, 8, 111, 120] (by kernel_rfl)))
  refine T_seq (T_parts ?_)
  refine TL_part 2 [] (mk 27 [(0, (rf 3 0)), (5, (dt (.str s_63))), (6, (dt .any)), (7, (dt (.iface 100 .any))), (16, (rf 3 0)), (17, (dt (.iface 100 .any)))] [(0, (.obj (tabP Tryd.prog))), (1, (.obj (errP 1))), (2, (.obj (errP 2))), (3, (.var [(.dat (.sl 1 (s_66.map elB)))])), (8, (.var [(.dat (I v_33)), (.dat (I 0)), (.dat (.str ([] : List UInt8))), (.own 120), (.own 111)])), (111, (.row 9 1 (l_37.map elStr))), (120, (.row 25 5 (l_36.map encVal)))]) _ (by kernel_rfl) (z4 zt) rfl ?_
  refine TL_neNil 84 84 18 true rfl rfl rfl (by kernel_rfl) (.inl ⟨rfl, 100, .any, by kernel_rfl⟩) ?_
  refine TL_turn [] [5, 6, 16, 18] [] (mk 27 [(5, (dt (.str s_63))), (6, (dt .any)), (16, (rf 3 0)), (18, (db true))] [(0, (.obj (tabP Tryd.prog))), (1, (.obj (errP 1))), (2, (.obj (errP 2))), (3, (.var [(.dat (.sl 1 (s_66.map elB)))])), (8, (.var [(.dat (I v_33)), (.dat (I 0)), (.dat (.str ([] : List UInt8))), (.own 120), (.own 111)])), (111, (.row 9 1 (l_37.map elStr))), (120, (.row 25 5 (l_36.map encVal)))]) (by kernel_rfl) ?_
  refine TL_part 6 [zn, zg, zg, zg, zg, (zd (B true))] (mk 27 [(5, (dt (.str s_63))), (6, (dt .any)), (16, (rf 3 0)), (18, (db true)), (19, (db true)), (20, (dt (.tup []))), (21, (dt (.tup []))), (22, (dt (.tup []))), (23, (dt (.tup []))), (24, (db true))] [(0, (.obj (tabP Tryd.prog))), (1, (.obj (errP 1))), (2, (.obj (errP 2))), (3, (.var [(.dat (.sl 1 (s_66.map elB)))])), (8, (.var [(.dat (I v_33)), (.dat (I 0)), (.dat (.str ([] : List UInt8))), (.own 120), (.own 111)])), (111, (.row 9 1 (l_37.map elStr))), (120, (.row 25 5 (l_36.map encVal)))]) _ (by kernel_rfl) (z2 (zc (gd_tf (rfl : true = true)) (zc (gd_tf (rfl : true = true)) (zc (gd_tf (rfl : true = true)) (zc (gd_tf (rfl : true = true)) (z1 (zc (rfl : true = true) zt))))))) rfl ?_
  refine TL_inlineP 187 33 [] Tryd.f33 _ rfl rfl (by kernel_rfl) Tryd.func33 rfl rfl (by decide) ?_
  refine T_turn [] [0, 1] [] (mk 6 [(0, (rf 3 0)), (1, (db true))] [(0, (.obj (tabP Tryd.prog))), (1, (.obj (errP 1))), (2, (.obj (errP 2))), (3, (.var [(.dat (.sl 1 (s_66.map elB)))])), (8, (.var [(.dat (I v_33)), (.dat (I 0)), (.dat (.str ([] : List UInt8))), (.own 120), (.own 111)])), (111, (.row 9 1 (l_37.map elStr))), (120, (.row 25 5 (l_36.map encVal)))]) (by kernel_rfl) ?_
  refine T_reg [] [4] [] (mk 6 [(4, (db true))] [(0, (.obj (tabP Tryd.prog))), (1, (.obj (errP 1))), (2, (.obj (errP 2))), (3, (.var [(.dat (.sl 1 (s_66.map elB)))])), (8, (.var [(.dat (I v_33)), (.dat (I 0)), (.dat (.str ([] : List UInt8))), (.own 120), (.own 111)])), (111, (.row 9 1 (l_37.map elStr))), (120, (.row 25 5 (l_36.map encVal)))]) _ (by kernel_rfl) (z2 zt) ?_
  refine T_cond true (by kernel_rfl) (fun _ => ?_) (fun h => absurd (h.symm.trans (rfl : true = true)) (by decide))
  refine T_parts ?_
  refine TL_part 1 [] (mk 6 [(4, (db true)), (5, (dt (.iface 29 (I 20))))] [(0, (.obj (tabP Tryd.prog))), (1, (.obj (errP 1))), (2, (.obj (errP 2))), (3, (.var [(.dat (.sl 1 (s_66.map elB)))])), (8, (.var [(.dat (I v_33)), (.dat (I 0)), (.dat (.str ([] : List UInt8))), (.own 120), (.own 111)])), (111, (.row 9 1 (l_37.map elStr))), (120, (.row 25 5 (l_36.map encVal)))]) _ (by kernel_rfl) (z2 zt) rfl ?_
  refine TL_panic 29 (I 20) rfl rfl (by kernel_rfl) ?_
  replace h := up_inv h hy1
  obtain rfl := some_inv h
  exact (show _ ∧ _ from ⟨rfl, (show _ ∧ _ from ⟨rfl, (show _ ∧ _ from ⟨rfl, (show _ ∧ _ from ⟨rfl, ⟨_, rfl, lk3 (by kernel_rfl) (by kernel_rfl) (by kernel_rfl)⟩⟩)⟩)⟩)⟩)
  refine T_parts ?_
  refine TL_part 1 [] (mk 27 [(0, (rf 3 0)), (5, (dt (.str s_63))), (12, (dt (.str s_63)))] [(0, (.obj (tabP Tryd.prog))), (1, (.obj (errP 1))), (2, (.obj (errP 2))), (3, (.var [(.dat (.sl 1 (s_66.map elB)))])), (8, (.var [(.dat (I v_33)), (.dat (I 0)), (.dat (.str ([] : List UInt8))), (.own 120), (.own 111)])), (111, (.row 9 1 (l_37.map elStr))), (120, (.row 25 5 (l_36.map encVal)))]) _ (by kernel_rfl) (z2 zt) rfl ?_
  obtain ⟨c85, h⟩ := ck_inv h
  refine TL_parseInt Tryd.lparse 13 1 2 s_63 rfl rfl rfl (by kernel_rfl) (by kernel_rfl) (by kernel_rfl) (by kernel_rfl) c85 (by kernel_rfl) (by kernel_rfl) (fun n_86 p87 => ?_) (fun p87 => ?_)
  replace h := onP_some h p87
  refine TL_turn [] [0, 5, 13] [] (mk 27 [(0, (rf 3 0)), (5, (dt (.str s_63))), (13, (.tup [(false, [(.dat (I n_86))]), (false, [(.dat (.con .nilIface))])]))] [(0, (.obj (tabP Tryd.prog))), (1, (.obj (errP 1))), (2, (.obj (errP 2))), (3, (.var [(.dat (.sl 1 (s_66.map elB)))])), (8, (.var [(.dat (I v_33)), (.dat (I 0)), (.dat (.str ([] : List UInt8))), (.own 120), (.own 111)])), (111, (.row 9 1 (l_37.map elStr))), (120, (.row 25 5 (l_36.map encVal)))]) (by kernel_rfl) ?_
  refine TL_part 5 [] (mk 27 [(0, (rf 3 0)), (5, (dt (.str s_63))), (6, (di n_86)), (7, (dt (.con .nilIface))), (11, (.tup [(false, [(.dat (I n_86))]), (false, [(.dat (.con .nilIface))])])), (13, (.tup [(false, [(.dat (I n_86))]), (false, [(.dat (.con .nilIface))])])), (14, (di n_86)), (15, (dt (.con .nilIface)))] [(0, (.obj (tabP Tryd.prog))), (1, (.obj (errP 1))), (2, (.obj (errP 2))), (3, (.var [(.dat (.sl 1 (s_66.map elB)))])), (8, (.var [(.dat (I v_33)), (.dat (I 0)), (.dat (.str ([] : List UInt8))), (.own 120), (.own 111)])), (111, (.row 9 1 (l_37.map elStr))), (120, (.row 25 5 (l_36.map encVal)))]) _ (by kernel_rfl) (z8 (z2 zt)) rfl ?_
  refine TL_nilQ ?_
  exact Exists.intro (.inl n_86) (And.intro h (arr [] [0, 5, 6, 7] [] [0, 1, 2, 3, 8, 111, 120] (by kernel_rfl)))
  replace h := onP_none h p87
  refine TL_turn [] [0, 5, 13] [] (mk 27 [(0, (rf 3 0)), (5, (dt (.str s_63))), (13, (.tup [(false, [(.dat .any)]), (false, [(.dat (.iface 100 .any))])]))] [(0, (.obj (tabP Tryd.prog))), (1, (.obj (errP 1))), (2, (.obj (errP 2))), (3, (.var [(.dat (.sl 1 (s_66.map elB)))])), (8, (.var [(.dat (I v_33)), (.dat (I 0)), (.dat (.str ([] : List UInt8))), (.own 120), (.own 111)])), (111, (.row 9 1 (l_37.map elStr))), (120, (.row 25 5 (l_36.map encVal)))]) (by kernel_rfl) ?_
  refine TL_part 5 [] (mk 27 [(0, (rf 3 0)), (5, (dt (.str s_63))), (6, (dt .any)), (7, (dt (.iface 100 .any))), (11, (.tup [(false, [(.dat .any)]), (false, [(.dat (.iface 100 .any))])])), (13, (.tup [(false, [(.dat .any)]), (false, [(.dat (.iface 100 .any))])])), (14, (dt .any)), (15, (dt (.iface 100 .any)))] [(0, (.obj (tabP Tryd.prog))), (1, (.obj (errP 1))), (2, (.obj (errP 2))), (3, (.var [(.dat (.sl 1 (s_66.map elB)))])), (8, (.var [(.dat (I v_33)), (.dat (I 0)), (.dat (.str ([] : List UInt8))), (.own 120), (.own 111)])), (111, (.row 9 1 (l_37.map elStr))), (120, (.row 25 5 (l_36.map encVal)))]) _ (by kernel_rfl) (z8 (z2 zt)) rfl ?_
  refine TL_nilQ ?_
  exact Exists.intro (.inr ()) (And.intro h (arr [] [0, 5, 6, 7] [] [0, 1, 2, 3, 8, 111, 120] (by kernel_rfl)))
  replace h := ite_f b58 h
  refine T_skip ?_
  exact Exists.intro (v_35, l_37) (And.intro h (arr [] [0, 1, 4] [] [0, 1, 2, 3, 8, 111, 120] (by kernel_rfl)))
  refine T_reg [] [0, 1, 4, 38] [] (mk 118 [(0, (rf 3 0)), (1, (di depth_2)), (4, (rf 8 0)), (38, (dt (.int .u8 ((x_4.toNat : Nat) : Int))))] [(0, (.obj (tabP Tryd.prog))), (1, (.obj (errP 1))), (2, (.obj (errP 2))), (3, (.var [(.dat (.sl 1 (s_31.map elB)))])), (8, (.var [(.dat (I 0)), (.dat (I 0)), (.dat (.str ([] : List UInt8))), (.dat nilS), (.dat nilS)]))]) _ (by kernel_rfl) (z2 zt) ?_
  refine T_block ?_
  refine T_reg [] [0, 1, 4, 38, 41] [] (mk 118 [(0, (rf 3 0)), (1, (di depth_2)), (4, (rf 8 0)), (38, (dt (.int .u8 ((x_4.toNat : Nat) : Int)))), (41, (db (((x_4.toNat : Nat) : Int) == 105)))] [(0, (.obj (tabP Tryd.prog))), (1, (.obj (errP 1))), (2, (.obj (errP 2))), (3, (.var [(.dat (.sl 1 (s_31.map elB)))])), (8, (.var [(.dat (I 0)), (.dat (I 0)), (.dat (.str ([] : List UInt8))), (.dat nilS), (.dat nilS)]))]) _ (by kernel_rfl) (z4 zt) ?_
  refine T_cond (((x_4.toNat : Nat) : Int) == 105) (by kernel_rfl) (fun b88 => ?_) (fun b88 => ?_)
  replace h := ite_t b88 h
  refine T_seq (T_parts ?_)
  refine TL_part 1 [] (mk 118 [(0, (rf 3 0)), (1, (di depth_2)), (4, (rf 8 0)), (38, (dt (.int .u8 ((x_4.toNat : Nat) : Int)))), (41, (db (((x_4.toNat : Nat) : Int) == 105))), (43, (rf 3 0))] [(0, (.obj (tabP Tryd.prog))), (1, (.obj (errP 1))), (2, (.obj (errP 2))), (3, (.var [(.dat (.sl 1 (s_31.map elB)))])), (8, (.var [(.dat (I 0)), (.dat (I 0)), (.dat (.str ([] : List UInt8))), (.dat nilS), (.dat nilS)]))]) _ (by kernel_rfl) (z2 zt) rfl ?_
  refine TL_inlineP 122 50 [] Tryd.f50 _ rfl rfl (by kernel_rfl) Tryd.func50 rfl rfl (by decide) ?_
  refine T_turn [] [0, 1] [] (mk 27 [(0, (rf 3 0)), (1, (dt (.int .u8 101)))] [(0, (.obj (tabP Tryd.prog))), (1, (.obj (errP 1))), (2, (.obj (errP 2))), (3, (.var [(.dat (.sl 1 (s_31.map elB)))])), (8, (.var [(.dat (I 0)), (.dat (I 0)), (.dat (.str ([] : List UInt8))), (.dat nilS), (.dat nilS)]))]) (by kernel_rfl) ?_
  refine T_reg [] [0, 1] [] (mk 27 [(0, (rf 3 0)), (1, (dt (.int .u8 101)))] [(0, (.obj (tabP Tryd.prog))), (1, (.obj (errP 1))), (2, (.obj (errP 2))), (3, (.var [(.dat (.sl 1 (s_31.map elB)))])), (8, (.var [(.dat (I 0)), (.dat (I 0)), (.dat (.str ([] : List UInt8))), (.dat nilS), (.dat nilS)]))]) _ (by kernel_rfl) (z2 zt) ?_
  refine T_seq (T_parts ?_)
  refine TL_part 2 [] (mk 27 [(0, (rf 3 0)), (1, (dt (.int .u8 101))), (8, (rf 3 0)), (9, (dt (.int .u8 101)))] [(0, (.obj (tabP Tryd.prog))), (1, (.obj (errP 1))), (2, (.obj (errP 2))), (3, (.var [(.dat (.sl 1 (s_31.map elB)))])), (8, (.var [(.dat (I 0)), (.dat (I 0)), (.dat (.str ([] : List UInt8))), (.dat nilS), (.dat nilS)]))]) _ (by kernel_rfl) (z4 zt) rfl ?_
  refine TL_inlineP 149 56 [] Tryd.f56 _ rfl rfl (by kernel_rfl) Tryd.func56 rfl rfl (by decide) ?_
  refine T_turn [] [0, 1] [] (mk 40 [(0, (rf 3 0)), (1, (dt (.int .u8 101)))] [(0, (.obj (tabP Tryd.prog))), (1, (.obj (errP 1))), (2, (.obj (errP 2))), (3, (.var [(.dat (.sl 1 (s_31.map elB)))])), (8, (.var [(.dat (I 0)), (.dat (I 0)), (.dat (.str ([] : List UInt8))), (.dat nilS), (.dat nilS)]))]) (by kernel_rfl) ?_
  refine T_reg [] [0, 1] [] (mk 40 [(0, (rf 3 0)), (1, (dt (.int .u8 101)))] [(0, (.obj (tabP Tryd.prog))), (1, (.obj (errP 1))), (2, (.obj (errP 2))), (3, (.var [(.dat (.sl 1 (s_31.map elB)))])), (8, (.var [(.dat (I 0)), (.dat (I 0)), (.dat (.str ([] : List UInt8))), (.dat nilS), (.dat nilS)]))]) _ (by kernel_rfl) (z2 zt) ?_
  obtain ⟨r_89, e90, h⟩ := bd_inv h
  refine T_reg (hl 6 [(5, (zd (I r_89)))]) [0, 5] [] (mk 40 [(0, (rf 3 0)), (5, (di r_89))] [(0, (.obj (tabP Tryd.prog))), (1, (.obj (errP 1))), (2, (.obj (errP 2))), (3, (.var [(.dat (.sl 1 (s_31.map elB)))])), (8, (.var [(.dat (I 0)), (.dat (I 0)), (.dat (.str ([] : List UInt8))), (.dat nilS), (.dat nilS)]))]) _ (by kernel_rfl) (z8 (z3 (zc (g_slices_Index_Lbyte_byte_ret e90) (z2 zt)))) ?_
  rcases Bool.eq_false_or_eq_true (decide (r_89 < 0)) with b91 | b91
  replace h := ite_t b91 h
  refine T_seq (T_parts ?_)
  refine TL_part 7 [zn, zn, zn, zn, zg, zg, (zd (B true))] (mk 40 [(0, (rf 3 0)), (5, (di r_89)), (13, (rf 3 0)), (14, (di r_89)), (15, (db (decide (r_89 < 0)))), (16, (db (decide (r_89 < 0)))), (17, (dt (.tup []))), (18, (dt (.tup []))), (19, (db true))] [(0, (.obj (tabP Tryd.prog))), (1, (.obj (errP 1))), (2, (.obj (errP 2))), (3, (.var [(.dat (.sl 1 (s_31.map elB)))])), (8, (.var [(.dat (I 0)), (.dat (I 0)), (.dat (.str ([] : List UInt8))), (.dat nilS), (.dat nilS)]))]) _ (by kernel_rfl) (z8 (zc (gd_tf b91) (zc (gd_tf b91) (z1 (zc b91 zt))))) rfl ?_
  refine TL_inlineP 189 33 [] Tryd.f33 _ rfl rfl (by kernel_rfl) Tryd.func33 rfl rfl (by decide) ?_
  refine T_turn [] [0, 1] [] (mk 6 [(0, (rf 3 0)), (1, (db true))] [(0, (.obj (tabP Tryd.prog))), (1, (.obj (errP 1))), (2, (.obj (errP 2))), (3, (.var [(.dat (.sl 1 (s_31.map elB)))])), (8, (.var [(.dat (I 0)), (.dat (I 0)), (.dat (.str ([] : List UInt8))), (.dat nilS), (.dat nilS)]))]) (by kernel_rfl) ?_
  refine T_reg [] [4] [] (mk 6 [(4, (db true))] [(0, (.obj (tabP Tryd.prog))), (1, (.obj (errP 1))), (2, (.obj (errP 2))), (3, (.var [(.dat (.sl 1 (s_31.map elB)))])), (8, (.var [(.dat (I 0)), (.dat (I 0)), (.dat (.str ([] : List UInt8))), (.dat nilS), (.dat nilS)]))]) _ (by kernel_rfl) (z2 zt) ?_
  refine T_cond true (by kernel_rfl) (fun _ => ?_) (fun h => absurd (h.symm.trans (rfl : true = true)) (by decide))
  refine T_parts ?_
  refine TL_part 1 [] (mk 6 [(4, (db true)), (5, (dt (.iface 29 (I 20))))] [(0, (.obj (tabP Tryd.prog))), (1, (.obj (errP 1))), (2, (.obj (errP 2))), (3, (.var [(.dat (.sl 1 (s_31.map elB)))])), (8, (.var [(.dat (I 0)), (.dat (I 0)), (.dat (.str ([] : List UInt8))), (.dat nilS), (.dat nilS)]))]) _ (by kernel_rfl) (z2 zt) rfl ?_
  refine TL_panic 29 (I 20) rfl rfl (by kernel_rfl) ?_
  obtain rfl := some_inv h
  exact (show _ ∧ _ from ⟨rfl, (show _ ∧ _ from ⟨rfl, (show _ ∧ _ from ⟨rfl, (show _ ∧ _ from ⟨rfl, ⟨_, rfl, lk3 (by kernel_rfl) (by kernel_rfl) (by kernel_rfl)⟩⟩)⟩)⟩)⟩)
  replace h := ite_f b91 h
  refine T_seq (T_parts ?_)
  refine TL_part 7 (hl 7 [(6, (zd (B false)))]) (mk 40 [(0, (rf 3 0)), (5, (di r_89)), (13, (rf 3 0)), (14, (di r_89)), (15, (db (decide (r_89 < 0)))), (16, (db (decide (r_89 < 0)))), (17, (di r_89)), (18, (db (decide (r_89 > 20)))), (19, (db (decide (r_89 > 20))))] [(0, (.obj (tabP Tryd.prog))), (1, (.obj (errP 1))), (2, (.obj (errP 2))), (3, (.var [(.dat (.sl 1 (s_31.map elB)))])), (8, (.var [(.dat (I 0)), (.dat (I 0)), (.dat (.str ([] : List UInt8))), (.dat nilS), (.dat nilS)]))]) _ (by kernel_rfl) (z8 (zc (gd_ff b91) (z1 (zc (gd_ff b91) (z2 (zc b91 zt)))))) rfl ?_
  refine TL_inlineP 189 33 [] Tryd.f33 _ rfl rfl (by kernel_rfl) Tryd.func33 rfl rfl (by decide) ?_
  refine T_turn [] [0, 1] [] (mk 6 [(0, (rf 3 0)), (1, (db (decide (r_89 > 20))))] [(0, (.obj (tabP Tryd.prog))), (1, (.obj (errP 1))), (2, (.obj (errP 2))), (3, (.var [(.dat (.sl 1 (s_31.map elB)))])), (8, (.var [(.dat (I 0)), (.dat (I 0)), (.dat (.str ([] : List UInt8))), (.dat nilS), (.dat nilS)]))]) (by kernel_rfl) ?_
  refine T_reg [] [4] [] (mk 6 [(4, (db (decide (r_89 > 20))))] [(0, (.obj (tabP Tryd.prog))), (1, (.obj (errP 1))), (2, (.obj (errP 2))), (3, (.var [(.dat (.sl 1 (s_31.map elB)))])), (8, (.var [(.dat (I 0)), (.dat (I 0)), (.dat (.str ([] : List UInt8))), (.dat nilS), (.dat nilS)]))]) _ (by kernel_rfl) (z2 zt) ?_
  refine T_cond (decide (r_89 > 20)) (by kernel_rfl) (fun b92 => ?_) (fun b92 => ?_)
  replace h := ite_t b92 h
  refine T_parts ?_
  refine TL_part 1 [] (mk 6 [(4, (db (decide (r_89 > 20)))), (5, (dt (.iface 29 (I 20))))] [(0, (.obj (tabP Tryd.prog))), (1, (.obj (errP 1))), (2, (.obj (errP 2))), (3, (.var [(.dat (.sl 1 (s_31.map elB)))])), (8, (.var [(.dat (I 0)), (.dat (I 0)), (.dat (.str ([] : List UInt8))), (.dat nilS), (.dat nilS)]))]) _ (by kernel_rfl) (z2 zt) rfl ?_
  refine TL_panic 29 (I 20) rfl rfl (by kernel_rfl) ?_
  obtain rfl := some_inv h
  exact (show _ ∧ _ from ⟨rfl, (show _ ∧ _ from ⟨rfl, (show _ ∧ _ from ⟨rfl, (show _ ∧ _ from ⟨rfl, ⟨_, rfl, lk3 (by kernel_rfl) (by kernel_rfl) (by kernel_rfl)⟩⟩)⟩)⟩)⟩)
  replace h := ite_f b92 h
  refine T_skip ?_
  refine ⟨[], by kernel_rfl, ?_⟩
  refine TL_turn [] [0, 5, 20] [] (mk 40 [(0, (rf 3 0)), (5, (di r_89)), (20, (.tup []))] [(0, (.obj (tabP Tryd.prog))), (1, (.obj (errP 1))), (2, (.obj (errP 2))), (3, (.var [(.dat (.sl 1 (s_31.map elB)))])), (8, (.var [(.dat (I 0)), (.dat (I 0)), (.dat (.str ([] : List UInt8))), (.dat nilS), (.dat nilS)]))]) (by kernel_rfl) ?_
  refine TL_nilQ ?_
  refine T_turn [] [0, 5] [] (mk 40 [(0, (rf 3 0)), (5, (di r_89))] [(0, (.obj (tabP Tryd.prog))), (1, (.obj (errP 1))), (2, (.obj (errP 2))), (3, (.var [(.dat (.sl 1 (s_31.map elB)))])), (8, (.var [(.dat (I 0)), (.dat (I 0)), (.dat (.str ([] : List UInt8))), (.dat nilS), (.dat nilS)]))]) (by kernel_rfl) ?_
  obtain ⟨s_93, e94, h⟩ := sbm_inv 1 elB h
  refine T_reg (hl 7 [(6, (zd (.sl 1 (s_93.map elB))))]) [0, 5, 6] [] (mk 40 [(0, (rf 3 0)), (5, (di r_89)), (6, (dt (.sl 1 (s_93.map elB))))] [(0, (.obj (tabP Tryd.prog))), (1, (.obj (errP 1))), (2, (.obj (errP 2))), (3, (.var [(.dat (.sl 1 (s_31.map elB)))])), (8, (.var [(.dat (I 0)), (.dat (I 0)), (.dat (.str ([] : List UInt8))), (.dat nilS), (.dat nilS)]))]) _ (by kernel_rfl) (z8 (z5 (zc e94 (z2 zt)))) ?_
  obtain ⟨c95, h⟩ := ckI_inv h
  obtain ⟨s_96, e97, h⟩ := sb_inv 1 elB h
  refine T_reg (hl 8 [(6, (zd (I (r_89 + 1)))), (7, (zd (.sl 1 (s_96.map elB))))]) [6] [] (mk 40 [(6, (dt (.sl 1 (s_93.map elB))))] [(0, (.obj (tabP Tryd.prog))), (1, (.obj (errP 1))), (2, (.obj (errP 2))), (3, (.var [(.dat (.sl 1 (s_96.map elB)))])), (8, (.var [(.dat (I 0)), (.dat (I 0)), (.dat (.str ([] : List UInt8))), (.dat nilS), (.dat nilS)]))]) _ (by kernel_rfl) (z8 (z5 (zc c95 (z1 (zc e97 (z6 zt)))))) ?_
  refine T_reg [zn, (zd (.str s_93))] [4] [] (mk 40 [(4, (dt (.str s_93)))] [(0, (.obj (tabP Tryd.prog))), (1, (.obj (errP 1))), (2, (.obj (errP 2))), (3, (.var [(.dat (.sl 1 (s_96.map elB)))])), (8, (.var [(.dat (I 0)), (.dat (I 0)), (.dat (.str ([] : List UInt8))), (.dat nilS), (.dat nilS)]))]) _ (by kernel_rfl) (z3 (zc (rfl : s_93.map elB = s_93.map elB) (z2 zt))) ?_
  refine T_ret ?_
  refine ⟨[(dt (.str s_93))], by kernel_rfl, ?_⟩
  refine TL_turn [] [0, 10] [] (mk 27 [(0, (rf 3 0)), (10, (dt (.str s_93)))] [(0, (.obj (tabP Tryd.prog))), (1, (.obj (errP 1))), (2, (.obj (errP 2))), (3, (.var [(.dat (.sl 1 (s_96.map elB)))])), (8, (.var [(.dat (I 0)), (.dat (I 0)), (.dat (.str ([] : List UInt8))), (.dat nilS), (.dat nilS)]))]) (by kernel_rfl) ?_
  refine TL_part 1 [] (mk 27 [(0, (rf 3 0)), (5, (dt (.str s_93))), (10, (dt (.str s_93)))] [(0, (.obj (tabP Tryd.prog))), (1, (.obj (errP 1))), (2, (.obj (errP 2))), (3, (.var [(.dat (.sl 1 (s_96.map elB)))])), (8, (.var [(.dat (I 0)), (.dat (I 0)), (.dat (.str ([] : List UInt8))), (.dat nilS), (.dat nilS)]))]) _ (by kernel_rfl) (z2 zt) rfl ?_
  refine TL_nilQ ?_
  refine T_turn [] [0, 5] [] (mk 27 [(0, (rf 3 0)), (5, (dt (.str s_93)))] [(0, (.obj (tabP Tryd.prog))), (1, (.obj (errP 1))), (2, (.obj (errP 2))), (3, (.var [(.dat (.sl 1 (s_96.map elB)))])), (8, (.var [(.dat (I 0)), (.dat (I 0)), (.dat (.str ([] : List UInt8))), (.dat nilS), (.dat nilS)]))]) (by kernel_rfl) ?_
  refine T_seqJ (α := (Int) ⊕ (Unit)) (fun v => match v with | (.inl n_98) => (mk 27 [(0, (rf 3 0)), (5, (dt (.str s_93))), (6, (di n_98)), (7, (dt (.con .nilIface)))] [(0, (.obj (tabP Tryd.prog))), (1, (.obj (errP 1))), (2, (.obj (errP 2))), (3, (.var [(.dat (.sl 1 (s_96.map elB)))])), (8, (.var [(.dat (I 0)), (.dat (I 0)), (.dat (.str ([] : List UInt8))), (.dat nilS), (.dat nilS)]))]) | (.inr _) => (mk 27 [(0, (rf 3 0)), (5, (dt (.str s_93))), (6, (dt .any)), (7, (dt (.iface 100 .any)))] [(0, (.obj (tabP Tryd.prog))), (1, (.obj (errP 1))), (2, (.obj (errP 2))), (3, (.var [(.dat (.sl 1 (s_96.map elB)))])), (8, (.var [(.dat (I 0)), (.dat (I 0)), (.dat (.str ([] : List UInt8))), (.dat nilS), (.dat nilS)]))])) (fun v => match v with | (.inl n_98) => g__codec_reader_value_s_j10 s_93 s_96 n_98 = some r | (.inr _) => g__codec_reader_value_s_j11 s_93 s_96 = some r) (fun v h => ?_) ?_
  rcases v with v | v
  revert h; revert v; intro n_98 h
  refine T_seq (T_parts ?_)
  refine TL_part 2 [] (mk 27 [(0, (rf 3 0)), (5, (dt (.str s_93))), (6, (di n_98)), (7, (dt (.con .nilIface))), (16, (rf 3 0)), (17, (dt (.con .nilIface)))] [(0, (.obj (tabP Tryd.prog))), (1, (.obj (errP 1))), (2, (.obj (errP 2))), (3, (.var [(.dat (.sl 1 (s_96.map elB)))])), (8, (.var [(.dat (I 0)), (.dat (I 0)), (.dat (.str ([] : List UInt8))), (.dat nilS), (.dat nilS)]))]) _ (by kernel_rfl) (z4 zt) rfl ?_
  refine TL_neNil 84 84 18 false rfl rfl rfl (by kernel_rfl) (.inr ⟨rfl, by kernel_rfl⟩) ?_
  refine TL_turn [] [5, 6, 16, 18] [] (mk 27 [(5, (dt (.str s_93))), (6, (di n_98)), (16, (rf 3 0)), (18, (db false))] [(0, (.obj (tabP Tryd.prog))), (1, (.obj (errP 1))), (2, (.obj (errP 2))), (3, (.var [(.dat (.sl 1 (s_96.map elB)))])), (8, (.var [(.dat (I 0)), (.dat (I 0)), (.dat (.str ([] : List UInt8))), (.dat nilS), (.dat nilS)]))]) (by kernel_rfl) ?_
  refine TL_part 2 [] (mk 27 [(5, (dt (.str s_93))), (6, (di n_98)), (16, (rf 3 0)), (18, (db false)), (19, (db false)), (20, (di n_98))] [(0, (.obj (tabP Tryd.prog))), (1, (.obj (errP 1))), (2, (.obj (errP 2))), (3, (.var [(.dat (.sl 1 (s_96.map elB)))])), (8, (.var [(.dat (I 0)), (.dat (I 0)), (.dat (.str ([] : List UInt8))), (.dat nilS), (.dat nilS)]))]) _ (by kernel_rfl) (z2 (zc (gd_ff (rfl : false = false)) (z1 zt))) rfl ?_
  refine TL_guard (p := (false == false) = true) (by kernel_rfl) (gd_ff (rfl : false = false)) ?_
  obtain ⟨c99, h⟩ := ckI_in h
  refine TL_fmtInt Tryd.lformat 21 0 n_98 rfl rfl rfl (by kernel_rfl) (by kernel_rfl) (by kernel_rfl) c99 (by kernel_rfl) ?_
  refine TL_turn [] [5, 6, 16, 19, 21] [] (mk 27 [(5, (dt (.str s_93))), (6, (di n_98)), (16, (rf 3 0)), (19, (db false)), (21, (dt (.str (Lib.itoa n_98))))] [(0, (.obj (tabP Tryd.prog))), (1, (.obj (errP 1))), (2, (.obj (errP 2))), (3, (.var [(.dat (.sl 1 (s_96.map elB)))])), (8, (.var [(.dat (I 0)), (.dat (I 0)), (.dat (.str ([] : List UInt8))), (.dat nilS), (.dat nilS)]))]) (by kernel_rfl) ?_
  refine TL_part 3 [zn, zn, (zd (B false))] (mk 27 [(5, (dt (.str s_93))), (6, (di n_98)), (16, (rf 3 0)), (19, (db false)), (21, (dt (.str (Lib.itoa n_98)))), (22, (dt (.str s_93))), (23, (db (!((Lib.itoa n_98) == s_93)))), (24, (db (!((Lib.itoa n_98) == s_93))))] [(0, (.obj (tabP Tryd.prog))), (1, (.obj (errP 1))), (2, (.obj (errP 2))), (3, (.var [(.dat (.sl 1 (s_96.map elB)))])), (8, (.var [(.dat (I 0)), (.dat (I 0)), (.dat (.str ([] : List UInt8))), (.dat nilS), (.dat nilS)]))]) _ (by kernel_rfl) (zc (gd_ff (rfl : false = false)) (z1 (zc (gd_ff (rfl : false = false)) (z2 (zc (rfl : false = false) zt))))) rfl ?_
  refine TL_inlineP 149 33 [] Tryd.f33 _ rfl rfl (by kernel_rfl) Tryd.func33 rfl rfl (by decide) ?_
  refine T_turn [] [0, 1] [] (mk 6 [(0, (rf 3 0)), (1, (db (!((Lib.itoa n_98) == s_93))))] [(0, (.obj (tabP Tryd.prog))), (1, (.obj (errP 1))), (2, (.obj (errP 2))), (3, (.var [(.dat (.sl 1 (s_96.map elB)))])), (8, (.var [(.dat (I 0)), (.dat (I 0)), (.dat (.str ([] : List UInt8))), (.dat nilS), (.dat nilS)]))]) (by kernel_rfl) ?_
  refine T_reg [] [4] [] (mk 6 [(4, (db (!((Lib.itoa n_98) == s_93))))] [(0, (.obj (tabP Tryd.prog))), (1, (.obj (errP 1))), (2, (.obj (errP 2))), (3, (.var [(.dat (.sl 1 (s_96.map elB)))])), (8, (.var [(.dat (I 0)), (.dat (I 0)), (.dat (.str ([] : List UInt8))), (.dat nilS), (.dat nilS)]))]) _ (by kernel_rfl) (z2 zt) ?_
  refine T_cond (!((Lib.itoa n_98) == s_93)) (by kernel_rfl) (fun b100 => ?_) (fun b100 => ?_)
  replace h := ite_t b100 h
  refine T_parts ?_
  refine TL_part 1 [] (mk 6 [(4, (db (!((Lib.itoa n_98) == s_93)))), (5, (dt (.iface 29 (I 20))))] [(0, (.obj (tabP Tryd.prog))), (1, (.obj (errP 1))), (2, (.obj (errP 2))), (3, (.var [(.dat (.sl 1 (s_96.map elB)))])), (8, (.var [(.dat (I 0)), (.dat (I 0)), (.dat (.str ([] : List UInt8))), (.dat nilS), (.dat nilS)]))]) _ (by kernel_rfl) (z2 zt) rfl ?_
  refine TL_panic 29 (I 20) rfl rfl (by kernel_rfl) ?_
  obtain rfl := some_inv h
  exact (show _ ∧ _ from ⟨rfl, (show _ ∧ _ from ⟨rfl, (show _ ∧ _ from ⟨rfl, ⟨_, rfl, lk3 (by kernel_rfl) (by kernel_rfl) (by kernel_rfl)⟩⟩)⟩)⟩)
  replace h := ite_f b100 h
  refine T_skip ?_
  refine ⟨[], by kernel_rfl, ?_⟩
  refine TL_turn [] [6, 25] [] (mk 27 [(6, (di n_98)), (25, (.tup []))] [(0, (.obj (tabP Tryd.prog))), (1, (.obj (errP 1))), (2, (.obj (errP 2))), (3, (.var [(.dat (.sl 1 (s_96.map elB)))])), (8, (.var [(.dat (I 0)), (.dat (I 0)), (.dat (.str ([] : List UInt8))), (.dat nilS), (.dat nilS)]))]) (by kernel_rfl) ?_
  refine TL_nilQ ?_
  refine T_turn [] [6] [] (mk 27 [(6, (di n_98))] [(0, (.obj (tabP Tryd.prog))), (1, (.obj (errP 1))), (2, (.obj (errP 2))), (3, (.var [(.dat (.sl 1 (s_96.map elB)))])), (8, (.var [(.dat (I 0)), (.dat (I 0)), (.dat (.str ([] : List UInt8))), (.dat nilS), (.dat nilS)]))]) (by kernel_rfl) ?_
  refine T_reg [] [4] [] (mk 27 [(4, (di n_98))] [(0, (.obj (tabP Tryd.prog))), (1, (.obj (errP 1))), (2, (.obj (errP 2))), (3, (.var [(.dat (.sl 1 (s_96.map elB)))])), (8, (.var [(.dat (I 0)), (.dat (I 0)), (.dat (.str ([] : List UInt8))), (.dat nilS), (.dat nilS)]))]) _ (by kernel_rfl) (z4 zt) ?_
  refine T_ret ?_
  refine ⟨[(di n_98)], by kernel_rfl, ?_⟩
  refine TL_turn [] [4, 44] [] (mk 118 [(4, (rf 8 0)), (44, (di n_98))] [(0, (.obj (tabP Tryd.prog))), (1, (.obj (errP 1))), (2, (.obj (errP 2))), (3, (.var [(.dat (.sl 1 (s_96.map elB)))])), (8, (.var [(.dat (I 0)), (.dat (I 0)), (.dat (.str ([] : List UInt8))), (.dat nilS), (.dat nilS)]))]) (by kernel_rfl) ?_
  refine TL_part 2 [] (mk 118 [(4, (rf 8 0)), (44, (di n_98)), (45, (.agg [(.dat (I 1)), (.dat (I n_98)), (.dat (.str ([] : List UInt8))), (.dat nilS), (.dat nilS)]))] [(0, (.obj (tabP Tryd.prog))), (1, (.obj (errP 1))), (2, (.obj (errP 2))), (3, (.var [(.dat (.sl 1 (s_96.map elB)))])), (8, (.var [(.dat (I 1)), (.dat (I n_98)), (.dat (.str ([] : List UInt8))), (.dat nilS), (.dat nilS)]))]) _ (by kernel_rfl) (z4 zt) rfl ?_
  refine TL_nilQ ?_
  refine T_turn [] [4] [] (mk 118 [(4, (rf 8 0))] [(0, (.obj (tabP Tryd.prog))), (1, (.obj (errP 1))), (2, (.obj (errP 2))), (3, (.var [(.dat (.sl 1 (s_96.map elB)))])), (8, (.var [(.dat (I 1)), (.dat (I n_98)), (.dat (.str ([] : List UInt8))), (.dat nilS), (.dat nilS)]))]) (by kernel_rfl) ?_
  refine T_arr [.nilC 8 3 5, .nilC 8 4 1, .ice 8] [4] [8] [0, 1, 2, 3] (mk 118 [(4, (dt (.ptr [(I 1), (I n_98), (.str ([] : List UInt8)), (.sl 5 (([] : List Val).map encVal)), (.sl 1 (([] : List (List UInt8)).map elStr))])))] [(0, (.obj (tabP Tryd.prog))), (1, (.obj (errP 1))), (2, (.obj (errP 2))), (3, (.var [(.dat (.sl 1 (s_96.map elB)))]))]) (by kernel_rfl) ?_
  refine T_ret ?_
  obtain rfl := some_inv h
  exact ⟨[(.agg [(.dat (I 1)), (.dat (I n_98)), (.dat (.str ([] : List UInt8))), (.dat (.sl 5 (([] : List Val).map encVal))), (.dat (.sl 1 (([] : List (List UInt8)).map elStr)))])], by kernel_rfl, rfl⟩
  refine T_seq (T_parts ?_)
  refine TL_part 2 [] (mk 27 [(0, (rf 3 0)), (5, (dt (.str s_93))), (6, (dt .any)), (7, (dt (.iface 100 .any))), (16, (rf 3 0)), (17, (dt (.iface 100 .any)))] [(0, (.obj (tabP Tryd.prog))), (1, (.obj (errP 1))), (2, (.obj (errP 2))), (3, (.var [(.dat (.sl 1 (s_96.map elB)))])), (8, (.var [(.dat (I 0)), (.dat (I 0)), (.dat (.str ([] : List UInt8))), (.dat nilS), (.dat nilS)]))]) _ (by kernel_rfl) (z4 zt) rfl ?_
  refine TL_neNil 84 84 18 true rfl rfl rfl (by kernel_rfl) (.inl ⟨rfl, 100, .any, by kernel_rfl⟩) ?_
  refine TL_turn [] [5, 6, 16, 18] [] (mk 27 [(5, (dt (.str s_93))), (6, (dt .any)), (16, (rf 3 0)), (18, (db true))] [(0, (.obj (tabP Tryd.prog))), (1, (.obj (errP 1))), (2, (.obj (errP 2))), (3, (.var [(.dat (.sl 1 (s_96.map elB)))])), (8, (.var [(.dat (I 0)), (.dat (I 0)), (.dat (.str ([] : List UInt8))), (.dat nilS), (.dat nilS)]))]) (by kernel_rfl) ?_
  refine TL_part 6 [zn, zg, zg, zg, zg, (zd (B true))] (mk 27 [(5, (dt (.str s_93))), (6, (dt .any)), (16, (rf 3 0)), (18, (db true)), (19, (db true)), (20, (dt (.tup []))), (21, (dt (.tup []))), (22, (dt (.tup []))), (23, (dt (.tup []))), (24, (db true))] [(0, (.obj (tabP Tryd.prog))), (1, (.obj (errP 1))), (2, (.obj (errP 2))), (3, (.var [(.dat (.sl 1 (s_96.map elB)))])), (8, (.var [(.dat (I 0)), (.dat (I 0)), (.dat (.str ([] : List UInt8))), (.dat nilS), (.dat nilS)]))]) _ (by kernel_rfl) (z2 (zc (gd_tf (rfl : true = true)) (zc (gd_tf (rfl : true = true)) (zc (gd_tf (rfl : true = true)) (zc (gd_tf (rfl : true = true)) (z1 (zc (rfl : true = true) zt))))))) rfl ?_
  refine TL_inlineP 149 33 [] Tryd.f33 _ rfl rfl (by kernel_rfl) Tryd.func33 rfl rfl (by decide) ?_
  refine T_turn [] [0, 1] [] (mk 6 [(0, (rf 3 0)), (1, (db true))] [(0, (.obj (tabP Tryd.prog))), (1, (.obj (errP 1))), (2, (.obj (errP 2))), (3, (.var [(.dat (.sl 1 (s_96.map elB)))])), (8, (.var [(.dat (I 0)), (.dat (I 0)), (.dat (.str ([] : List UInt8))), (.dat nilS), (.dat nilS)]))]) (by kernel_rfl) ?_
  refine T_reg [] [4] [] (mk 6 [(4, (db true))] [(0, (.obj (tabP Tryd.prog))), (1, (.obj (errP 1))), (2, (.obj (errP 2))), (3, (.var [(.dat (.sl 1 (s_96.map elB)))])), (8, (.var [(.dat (I 0)), (.dat (I 0)), (.dat (.str ([] : List UInt8))), (.dat nilS), (.dat nilS)]))]) _ (by kernel_rfl) (z2 zt) ?_
  refine T_cond true (by kernel_rfl) (fun _ => ?_) (fun h => absurd (h.symm.trans (rfl : true = true)) (by decide))
  refine T_parts ?_
  refine TL_part 1 [] (mk 6 [(4, (db true)), (5, (dt (.iface 29 (I 20))))] [(0, (.obj (tabP Tryd.prog))), (1, (.obj (errP 1))), (2, (.obj (errP 2))), (3, (.var [(.dat (.sl 1 (s_96.map elB)))])), (8, (.var [(.dat (I 0)), (.dat (I 0)), (.dat (.str ([] : List UInt8))), (.dat nilS), (.dat nilS)]))]) _ (by kernel_rfl) (z2 zt) rfl ?_
  refine TL_panic 29 (I 20) rfl rfl (by kernel_rfl) ?_
  obtain rfl := some_inv h
  exact (show _ ∧ _ from ⟨rfl, (show _ ∧ _ from ⟨rfl, (show _ ∧ _ from ⟨rfl, ⟨_, rfl, lk3 (by kernel_rfl) (by kernel_rfl) (by kernel_rfl)⟩⟩)⟩)⟩)
  refine T_parts ?_
  refine TL_part 1 [] (mk 27 [(0, (rf 3 0)), (5, (dt (.str s_93))), (12, (dt (.str s_93)))] [(0, (.obj (tabP Tryd.prog))), (1, (.obj (errP 1))), (2, (.obj (errP 2))), (3, (.var [(.dat (.sl 1 (s_96.map elB)))])), (8, (.var [(.dat (I 0)), (.dat (I 0)), (.dat (.str ([] : List UInt8))), (.dat nilS), (.dat nilS)]))]) _ (by kernel_rfl) (z2 zt) rfl ?_
  obtain ⟨c101, h⟩ := ck_inv h
  refine TL_parseInt Tryd.lparse 13 1 2 s_93 rfl rfl rfl (by kernel_rfl) (by kernel_rfl) (by kernel_rfl) (by kernel_rfl) c101 (by kernel_rfl) (by kernel_rfl) (fun n_102 p103 => ?_) (fun p103 => ?_)
  replace h := onP_some h p103
  refine TL_turn [] [0, 5, 13] [] (mk 27 [(0, (rf 3 0)), (5, (dt (.str s_93))), (13, (.tup [(false, [(.dat (I n_102))]), (false, [(.dat (.con .nilIface))])]))] [(0, (.obj (tabP Tryd.prog))), (1, (.obj (errP 1))), (2, (.obj (errP 2))), (3, (.var [(.dat (.sl 1 (s_96.map elB)))])), (8, (.var [(.dat (I 0)), (.dat (I 0)), (.dat (.str ([] : List UInt8))), (.dat nilS), (.dat nilS)]))]) (by kernel_rfl) ?_
  refine TL_part 5 [] (mk 27 [(0, (rf 3 0)), (5, (dt (.str s_93))), (6, (di n_102)), (7, (dt (.con .nilIface))), (11, (.tup [(false, [(.dat (I n_102))]), (false, [(.dat (.con .nilIface))])])), (13, (.tup [(false, [(.dat (I n_102))]), (false, [(.dat (.con .nilIface))])])), (14, (di n_102)), (15, (dt (.con .nilIface)))] [(0, (.obj (tabP Tryd.prog))), (1, (.obj (errP 1))), (2, (.obj (errP 2))), (3, (.var [(.dat (.sl 1 (s_96.map elB)))])), (8, (.var [(.dat (I 0)), (.dat (I 0)), (.dat (.str ([] : List UInt8))), (.dat nilS), (.dat nilS)]))]) _ (by kernel_rfl) (z8 (z2 zt)) rfl ?_
  refine TL_nilQ ?_
  exact Exists.intro (.inl n_102) (And.intro h (arr [] [0, 5, 6, 7] [] [0, 1, 2, 3, 8] (by kernel_rfl)))
  replace h := onP_none h p103
  refine TL_turn [] [0, 5, 13] [] (mk 27 [(0, (rf 3 0)), (5, (dt (.str s_93))), (13, (.tup [(false, [(.dat .any)]), (false, [(.dat (.iface 100 .any))])]))] [(0, (.obj (tabP Tryd.prog))), (1, (.obj (errP 1))), (2, (.obj (errP 2))), (3, (.var [(.dat (.sl 1 (s_96.map elB)))])), (8, (.var [(.dat (I 0)), (.dat (I 0)), (.dat (.str ([] : List UInt8))), (.dat nilS), (.dat nilS)]))]) (by kernel_rfl) ?_
  refine TL_part 5 [] (mk 27 [(0, (rf 3 0)), (5, (dt (.str s_93))), (6, (dt .any)), (7, (dt (.iface 100 .any))), (11, (.tup [(false, [(.dat .any)]), (false, [(.dat (.iface 100 .any))])])), (13, (.tup [(false, [(.dat .any)]), (false, [(.dat (.iface 100 .any))])])), (14, (dt .any)), (15, (dt (.iface 100 .any)))] [(0, (.obj (tabP Tryd.prog))), (1, (.obj (errP 1))), (2, (.obj (errP 2))), (3, (.var [(.dat (.sl 1 (s_96.map elB)))])), (8, (.var [(.dat (I 0)), (.dat (I 0)), (.dat (.str ([] : List UInt8))), (.dat nilS), (.dat nilS)]))]) _ (by kernel_rfl) (z8 (z2 zt)) rfl ?_
  refine TL_nilQ ?_
  exact Exists.intro (.inr ()) (And.intro h (arr [] [0, 5, 6, 7] [] [0, 1, 2, 3, 8] (by kernel_rfl)))
  replace h := ite_f b88 h
  refine T_reg [] [0, 1, 4, 38, 46] [] (mk 118 [(0, (rf 3 0)), (1, (di depth_2)), (4, (rf 8 0)), (38, (dt (.int .u8 ((x_4.toNat : Nat) : Int)))), (46, (db (((x_4.toNat : Nat) : Int) == 108)))] [(0, (.obj (tabP Tryd.prog))), (1, (.obj (errP 1))), (2, (.obj (errP 2))), (3, (.var [(.dat (.sl 1 (s_31.map elB)))])), (8, (.var [(.dat (I 0)), (.dat (I 0)), (.dat (.str ([] : List UInt8))), (.dat nilS), (.dat nilS)]))]) _ (by kernel_rfl) (z4 zt) ?_
  refine T_cond (((x_4.toNat : Nat) : Int) == 108) (by kernel_rfl) (fun b104 => ?_) (fun b104 => ?_)
  replace h := ite_t b104 h
  exact T_regJ [] [] [0, 1, 4] [] [0, 1, 2, 3, 8] _ _ (by kernel_rfl) (z4 zt) (fun s hs => Exists.intro 3 (And.intro h hs))
  replace h := ite_f b104 h
  refine T_reg [] [0, 1, 4, 49] [] (mk 118 [(0, (rf 3 0)), (1, (di depth_2)), (4, (rf 8 0)), (49, (db (((x_4.toNat : Nat) : Int) == 100)))] [(0, (.obj (tabP Tryd.prog))), (1, (.obj (errP 1))), (2, (.obj (errP 2))), (3, (.var [(.dat (.sl 1 (s_31.map elB)))])), (8, (.var [(.dat (I 0)), (.dat (I 0)), (.dat (.str ([] : List UInt8))), (.dat nilS), (.dat nilS)]))]) _ (by kernel_rfl) (z4 zt) ?_
  refine T_cond (((x_4.toNat : Nat) : Int) == 100) (by kernel_rfl) (fun b105 => ?_) (fun b105 => ?_)
  replace h := ite_t b105 h
  exact T_regJ [] [] [0, 1, 4] [] [0, 1, 2, 3, 8] _ _ (by kernel_rfl) (z4 zt) (fun s hs => Exists.intro 4 (And.intro h hs))
  replace h := ite_f b105 h
  refine T_parts ?_
  refine TL_part 1 [] (mk 118 [(0, (rf 3 0)), (1, (di depth_2)), (4, (rf 8 0)), (39, (rf 3 0)), (49, (db (((x_4.toNat : Nat) : Int) == 100)))] [(0, (.obj (tabP Tryd.prog))), (1, (.obj (errP 1))), (2, (.obj (errP 2))), (3, (.var [(.dat (.sl 1 (s_31.map elB)))])), (8, (.var [(.dat (I 0)), (.dat (I 0)), (.dat (.str ([] : List UInt8))), (.dat nilS), (.dat nilS)]))]) _ (by kernel_rfl) (z2 zt) rfl ?_
  refine TL_inlineP 122 33 [] Tryd.f33 _ rfl rfl (by kernel_rfl) Tryd.func33 rfl rfl (by decide) ?_
  refine T_turn [] [0, 1] [] (mk 6 [(0, (rf 3 0)), (1, (db true))] [(0, (.obj (tabP Tryd.prog))), (1, (.obj (errP 1))), (2, (.obj (errP 2))), (3, (.var [(.dat (.sl 1 (s_31.map elB)))])), (8, (.var [(.dat (I 0)), (.dat (I 0)), (.dat (.str ([] : List UInt8))), (.dat nilS), (.dat nilS)]))]) (by kernel_rfl) ?_
  refine T_reg [] [4] [] (mk 6 [(4, (db true))] [(0, (.obj (tabP Tryd.prog))), (1, (.obj (errP 1))), (2, (.obj (errP 2))), (3, (.var [(.dat (.sl 1 (s_31.map elB)))])), (8, (.var [(.dat (I 0)), (.dat (I 0)), (.dat (.str ([] : List UInt8))), (.dat nilS), (.dat nilS)]))]) _ (by kernel_rfl) (z2 zt) ?_
  refine T_cond true (by kernel_rfl) (fun _ => ?_) (fun h => absurd (h.symm.trans (rfl : true = true)) (by decide))
  refine T_parts ?_
  refine TL_part 1 [] (mk 6 [(4, (db true)), (5, (dt (.iface 29 (I 20))))] [(0, (.obj (tabP Tryd.prog))), (1, (.obj (errP 1))), (2, (.obj (errP 2))), (3, (.var [(.dat (.sl 1 (s_31.map elB)))])), (8, (.var [(.dat (I 0)), (.dat (I 0)), (.dat (.str ([] : List UInt8))), (.dat nilS), (.dat nilS)]))]) _ (by kernel_rfl) (z2 zt) rfl ?_
  refine TL_panic 29 (I 20) rfl rfl (by kernel_rfl) ?_
  obtain rfl := some_inv h
  exact (show _ ∧ _ from ⟨rfl, (show _ ∧ _ from ⟨rfl, ⟨_, rfl, lk3 (by kernel_rfl) (by kernel_rfl) (by kernel_rfl)⟩⟩)⟩)
  rcases Bool.eq_false_or_eq_true (decide (((x_4.toNat : Nat) : Int) ≥ 48)) with b106 | b106
  replace h := ite_t b106 h
  exact T_regJ (hl 6 [(5, (zd (B true)))]) [] [0, 1, 4, 5, 26] [] [0, 1, 2, 3, 8] _ _ (by kernel_rfl) (z6 (zc (gd_tt b106) (z1 (zc (gd_tt b106) (z2 (zc b106 zt)))))) (fun s hs => Exists.intro (decide (((x_4.toNat : Nat) : Int) ≤ 57)) (And.intro h hs))
  replace h := ite_f b106 h
  exact T_regJ [zn, zn, zn, zg, zg, (zd (B false))] [] [0, 1, 4, 5, 26] [] [0, 1, 2, 3, 8] _ _ (by kernel_rfl) (z6 (zc (gd_ft b106) (zc (gd_ft b106) (z1 (zc b106 zt))))) (fun s hs => Exists.intro false (And.intro h hs))
theorem g__codec_reader_value_ret : ∀ {fu : Nat} {r_1 : Reader} {depth_2 : Int} {r : (Val × Reader) ⊕ Unit}, g__codec_reader_value fu r_1 depth_2 = some r → CT Tryd.prog 32 4 [(rf 3 0), (di depth_2)] [(0, (.obj (tabP Tryd.prog))), (1, (.obj (errP 1))), (2, (.obj (errP 2))), (3, (.var [(.dat (.sl 1 (r_1.rest.map elB)))]))] (CoR 3 ghosts (fun x => ((.agg (qVal x.1)), [(0, (.obj (tabP Tryd.prog))), (1, (.obj (errP 1))), (2, (.obj (errP 2))), (3, (.var [(.dat (.sl 1 (x.2.rest.map elB)))]))])) (.iface 29 (.int .i64 20)) r)
  | 0, _, _, _, h => by cases h
  | fu + 1, _, _, _, h => g__codec_reader_value_s_ret (fun {_} {_} {_} h => g__codec_reader_value_ret h) h

end Go.Proofs.YtimalbkjflfdoaaDoor

/-
  Go functions as partial functions, printed by auto.py: what each returns when its partial function has a value. Conditions: those of each theorem.
-/
namespace Go.Proofs.YtimalbkjflfdoaaDoor
open Go.DL
set_option maxRecDepth 100000
set_option maxHeartbeats 4000000
set_option linter.unusedVariables false
set_option linter.unusedSimpArgs false
structure Assizeref02Reader where
  B : List UInt8
  At : Int
  Bad : Bool
  deriving DecidableEq
end Go.Proofs.YtimalbkjflfdoaaDoor

/-
  Go functions as partial functions, printed by auto.py: what each returns when its partial function has a value. Conditions: those of each theorem.
-/
namespace Go.Proofs.YtimalbkjflfdoaaDoor
open Go.DL
set_option maxRecDepth 100000
set_option maxHeartbeats 4000000
set_option linter.unusedVariables false
set_option linter.unusedSimpArgs false
end Go.Proofs.YtimalbkjflfdoaaDoor

/-
  Go functions as partial functions, printed by auto.py: what each returns when its partial function has a value. Conditions: those of each theorem.
-/
namespace Go.Proofs.YtimalbkjflfdoaaDoor
open Go.DL
set_option maxRecDepth 100000
set_option maxHeartbeats 4000000
set_option linter.unusedVariables false
set_option linter.unusedSimpArgs false
end Go.Proofs.YtimalbkjflfdoaaDoor

/-
  Go functions as partial functions, printed by auto.py: what each returns when its partial function has a value. Conditions: those of each theorem.
-/
namespace Go.Proofs.YtimalbkjflfdoaaDoor
open Go.DL
set_option maxRecDepth 100000
set_option maxHeartbeats 4000000
set_option linter.unusedVariables false
set_option linter.unusedSimpArgs false
end Go.Proofs.YtimalbkjflfdoaaDoor

/-
  Go functions as partial functions, printed by auto.py: what each returns when its partial function has a value. Conditions: those of each theorem.
-/
namespace Go.Proofs.YtimalbkjflfdoaaDoor
open Go.DL
set_option maxRecDepth 100000
set_option maxHeartbeats 4000000
set_option linter.unusedVariables false
set_option linter.unusedSimpArgs false
end Go.Proofs.YtimalbkjflfdoaaDoor

/-
  The data-level framework, third series, part n: a contract's own row, where the caller hands nil. Generic in the program; no condition.
-/
set_option linter.unusedVariables false
set_option linter.unusedSimpArgs false
namespace Go.DL
open Go.RowKit
section
variable {P : Program} {w : World} {M : BMap}
theorem Boxes.perm {E : Env} {l l' : List (Nat × Box)} (hp : l.Perm l') (h : Boxes E M w l) : Boxes E M w l' := by
  have hav : ∀ b, Av E.A0 M l' b → Av E.A0 M l b := fun b hb => hb.elim .inl fun ⟨p, h1, h2⟩ => .inr ⟨p, hp.mem_iff.2 h1, h2⟩
  exact {
    ok := fun id b hb => (h.ok id b (hp.mem_iff.2 hb)).mono (Keeps.sub hav) (fun _ _ => rfl)
    ids := (hp.map _).nodup_iff.1 h.ids
    blks := (hp.filterMap _).nodup_iff.1 h.blks
    new := fun p h1 => h.new p (hp.mem_iff.2 h1)
    foreign := h.foreign
    frame := h.frame
    old := fun p h1 => h.old p (hp.mem_iff.2 h1) }
theorem boxBlk_updN {n k : Nat} {rv : Value} {sz : Nat} {p : Nat × Box} (h : p.1 ≠ n) : boxBlk (M.upd n k rv sz) p = boxBlk M p := by
  obtain ⟨i, b⟩ := p
  simp only at h
  cases b <;> simp [boxBlk, BMap.upd, h]
theorem drop_free_bx {s : DS} {n : Nat} (h : s.bx.map (fun p => (p.1, p.2.scrub n)) = s.bx) (hlt : (s.bx.all fun p => Nat.blt p.1 n) = true) : (s.drop n).bx = s.bx := by
  simp only [DS.drop]
  rw [List.filter_eq_self.2 (fun p hp => by
    have := List.all_eq_true.1 hlt p hp
    simp only [Nat.blt_eq] at this
    simp; omega)]
  exact h
/-- The row of its own that a contract takes may be nil. -/
theorem CT.nil {f : FuncId} {n : Nat} {ls : List LV} {bx : List (Nat × Box)} {R : CO → Prop} (e : TypeId) (sz : Nat) (h : CT P f (n + 1) (.one (.own n) :: ls) (bx ++ [(n, .row e sz [])]) R)
    (hfree : ls.map (LV.scrub n) = ls) (hfb : bx.map (fun p => (p.1, p.2.scrub n)) = bx) (hlt : (bx.all fun p => Nat.blt p.1 n) = true) : CT P f n (.one (.dat (.con (.slice none 0 0))) :: ls) bx R := by
  have hne : ∀ p ∈ bx, p.1 ≠ n := fun p hp => by
    have := List.all_eq_true.1 hlt p hp
    simp only [Nat.blt_eq] at this
    omega
  refine ⟨h.1, fun w A M vs hbx hsz hvs => ?_⟩
  have hst : St (envOf w A n M bx) M w { tmps := vs, defers := [] } ⟨.one (.dat (.con (.slice none 0 0))) :: ls, bx⟩ :=
    ⟨rfl, hsz, fun t l hl => by
      obtain ⟨u, hu, hr⟩ := hvs t l hl
      have : vs.getD t undef = u := by rw [Array.getD_eq_getD_getElem?, hu]; rfl
      rw [this]; exact hr, hbx⟩
  have h1 := hst.pushNil n e sz (Nat.le_refl _)
  let M1 := M.upd n 0 (.slice none 0 0) sz
  have hb1 : Boxes (envOf w A n M bx) M1 w ((n, .row e sz []) :: bx) := by
    have := h1.boxes
    simp only [DS.push] at this
    rw [drop_free_bx (s := ⟨_, bx⟩) hfb hlt] at this
    exact this
  have hperm : ((n, Box.row e sz []) :: bx).Perm (bx ++ [(n, .row e sz [])]) := (List.perm_append_comm (l₁ := [(n, Box.row e sz [])]) (l₂ := bx))
  have hb2 := hb1.perm hperm
  have hO : ∀ k, (envOf w A (n + 1) M1 (bx ++ [(n, .row e sz [])])).O k → (envOf w A n M bx).O k := by
    rintro k ⟨p, hp, hk⟩
    rcases List.mem_append.1 hp with hp | hp
    · exact ⟨p, hp, by rw [← boxBlk_updN (hne p hp)]; exact hk⟩
    · simp only [List.mem_singleton] at hp
      subst hp
      simp [boxBlk, M1, BMap.upd, Value.ownBlock] at hk
  have hb3 : Boxes (envOf w A (n + 1) M1 (bx ++ [(n, .row e sz [])])) M1 w (bx ++ [(n, .row e sz [])]) := {
    ok := hb2.ok
    ids := hb2.ids
    blks := hb2.blks
    new := fun p hp k hk => ⟨.inl ⟨p, hp, hk⟩, (hb2.new p hp k hk).2⟩
    foreign := fun b hb => ⟨(hb2.foreign b hb).1, fun ho => (hb2.foreign b hb).2 (hO b ho)⟩
    frame := Fr.refl _ _
    old := fun p hp _ => ⟨List.mem_map.2 ⟨p, hp, rfl⟩, rfl, rfl, rfl⟩ }
  have hav : ∀ b, Av A M1 (bx ++ [(n, .row e sz [])]) b → Av A M1 ((n, .row e sz []) :: bx) b := fun b hb => hb.elim .inl fun ⟨p, h2, h3⟩ => .inr ⟨p, hperm.mem_iff.2 h2, h3⟩
  refine (h.2 w A M1 vs hb3 (by simpa using hsz) fun j l hj => ?_).mono ?_
  · cases j with
    | zero =>
      cases hj
      obtain ⟨u, hu, hr⟩ := hvs 0 _ rfl
      simp only [LV.rel, C.rel] at hr
      exact ⟨u, hu, by rw [nil_rel hr]; simp [LV.rel, C.rel, M1, BMap.upd]⟩
    | succ j =>
      obtain ⟨u, hu, _⟩ := hvs (j + 1) l hj
      refine ⟨u, hu, ?_⟩
      have h2 := h1.slots (j + 1) (l.scrub n) (by
        simp only [DS.push, DS.drop, List.map_cons, List.getElem?_cons_succ, List.getElem?_map]
        rw [show ls[j]? = some l from hj]; rfl)
      have h3 : l.scrub n = l := by
        have h4 : (ls.map (LV.scrub n))[j]? = some (l.scrub n) := by rw [List.getElem?_map, show ls[j]? = some l from hj]; rfl
        rw [hfree, show ls[j]? = some l from hj] at h4
        exact (Option.some.inj h4).symm
      rw [h3] at h2
      have h5 : (Array.getD vs (j + 1) undef) = u := by rw [Array.getD_eq_getD_getElem?, hu]; rfl
      simp only [h5] at h2
      refine h2.mono (Keeps.sub fun b hb => ?_)
      simp only [DS.push]
      rw [drop_free_bx (s := ⟨_, bx⟩) hfb hlt]
      exact hav b hb
  · rintro en w' ⟨M', x, hR, hok⟩
    have conv : ∀ bx', Boxes (envOf w A (n + 1) M1 (bx ++ [(n, .row e sz [])])) M' w' bx' → Boxes (envOf w A n M bx) M' w' bx' := fun bx' hB => {
      ok := hB.ok
      ids := hB.ids
      blks := hB.blks
      new := fun p hp k hk => by
        obtain ⟨h2, h3⟩ := hB.new p hp k hk
        exact ⟨h2.imp (hO k) id, h3⟩
      foreign := hbx.foreign
      frame := ⟨hB.frame.os, hB.frame.tape, hB.frame.output, hB.frame.size, fun k hk ho => hB.frame.block k hk fun h2 => ho (hO k h2)⟩
      old := fun p hp hlt2 => by
        have hlt3 : p.1 < n := hlt2
        obtain ⟨h2, h3, h4, h5⟩ := hB.old p hp (show p.1 < n + 1 by omega)
        have hpn : p.1 ≠ n := by omega
        refine ⟨?_, h3.trans (by simp [envOf, M1, BMap.upd, hpn]), h4.trans (by simp [envOf, M1, BMap.upd, hpn]), h5.trans (by simp [envOf, M1, BMap.upd, hpn])⟩
        have h6 : p.1 ∈ (bx ++ [(n, Box.row e sz [])]).map (·.1) := h2
        rw [List.map_append, List.mem_append] at h6
        rcases h6 with h6 | h6
        · exact h6
        · simp at h6; exact absurd h6 hpn }
    refine ⟨M', x, hR, ?_⟩
    cases x with
    | ret l bx' => exact ⟨conv bx' hok.1, hok.2⟩
    | pan d bx' => exact ⟨conv bx' hok.1, hok.2⟩
end
end Go.DL

/-
  The data-level framework, third series, part o: a function with a deferred closure that recovers: its contract from the walks of its body and of the closure's. Generic in the program; no condition.
-/
set_option linter.unusedVariables false
set_option linter.unusedSimpArgs false
namespace Go.DL
open Go.RowKit
/-- The environment of a part that is entered with the boxes of a state. -/
def Env.inl (E : Env) (M : BMap) (w : World) (bx : List (Nat × Box)) (base' : Nat) (marks : List (Deferred × Nat)) : Env :=
  ⟨w, E.A0, base', M, fun k => ∃ p ∈ bx, boxBlk M p = some k, fun i => i ∈ bx.map (·.1), marks⟩
section
variable {P : Program} {E : Env} {M M' : BMap} {w w' : World} {bx bx' : List (Nat × Box)} {base' : Nat} {marks : List (Deferred × Nat)}
theorem Boxes.inlO (h : Boxes E M w bx) {k : Nat} (hk : (E.inl M w bx base' marks).O k) : (E.O k ∨ E.w0.heap.size ≤ k) ∧ k < w.heap.size := by
  obtain ⟨p, hp, hb⟩ := hk
  exact h.new p hp k hb
theorem Boxes.enter (h : Boxes E M w bx) : Boxes (E.inl M w bx base' marks) M w bx := {
  ok := h.ok
  ids := h.ids
  blks := h.blks
  new := fun p hp k hk => ⟨.inl ⟨p, hp, hk⟩, (h.new p hp k hk).2⟩
  foreign := fun b hb => by
    have h1 := h.foreign b hb
    refine ⟨Nat.lt_of_lt_of_le h1.1 h.frame.size, fun hob => ?_⟩
    rcases (h.inlO hob).1 with h2 | h2
    · exact h1.2 h2
    · have := h1.1; omega
  frame := Fr.refl _ _
  old := fun p hp _ => ⟨List.mem_map.2 ⟨p, hp, rfl⟩, rfl, rfl, rfl⟩ }
theorem Boxes.leave (h : Boxes E M w bx) (hb : E.base ≤ base') (h2 : Boxes (E.inl M w bx base' marks) M' w' bx') : Boxes E M' w' bx' := {
  ok := h2.ok
  ids := h2.ids
  blks := h2.blks
  new := fun p hp k hk => by
    obtain ⟨g1, g2⟩ := h2.new p hp k hk
    refine ⟨?_, g2⟩
    rcases g1 with g1 | g1
    · exact (h.inlO g1).1
    · exact .inr (Nat.le_trans h.frame.size g1)
  foreign := h.foreign
  frame := by
    have h1 := h2.frame
    have h3 := h.frame
    refine ⟨h1.os.trans h3.os, h1.tape.trans h3.tape, h1.output.trans h3.output, Nat.le_trans h3.size h1.size, fun k hk hok => ?_⟩
    refine (h1.block k (Nat.lt_of_lt_of_le hk h3.size) fun hob => ?_).trans (h3.block k hk hok)
    rcases (h.inlO hob).1 with h4 | h4
    · exact hok h4
    · omega
  old := fun p hp hlt => by
    obtain ⟨h1, g2, g3, g4⟩ := h2.old p hp (Nat.lt_of_lt_of_le hlt hb)
    obtain ⟨p0, hp0, he⟩ := List.mem_map.1 h1
    have := h.old p0 hp0 (by rw [he]; exact hlt)
    rw [he] at this
    obtain ⟨k1, k2, k3, k4⟩ := this
    exact ⟨k1, g2.trans k2, g3.trans k3, g4.trans k4⟩ }
theorem Boxes.keeps (h : Boxes E M w bx) (h2 : Boxes (E.inl M w bx base' marks) M' w' bx') : Keeps w (Av E.A0 M bx) w' (Av E.A0 M' bx') := by
  intro b off u h1 h3
  have hlt := World.block_lt_of_cell? w ⟨b, off, none⟩ h3
  have hnO : ¬ (E.inl M w bx base' marks).O b := fun hob => h1 (.inr hob)
  refine ⟨fun h4 => ?_, ?_⟩
  · rcases h4 with h4 | ⟨p, hp, hk⟩
    · exact h1 (.inl h4)
    · rcases (h2.new p hp b hk).1 with h5 | h5
      · exact hnO h5
      · exact absurd hlt (Nat.not_lt.2 h5)
  · rw [World.cell?_of_block (h2.frame.block b hlt hnO)]; exact h3
theorem Boxes.live (h2 : Boxes (E.inl M w bx base' marks) M' w' bx') {i : Nat} (hi : liveIn bx' base' i = true) : M'.blk i = M.blk i ∧ M'.rv i = M.rv i ∧ M'.sz i = M.sz i := by
  simp only [liveIn, Bool.and_eq_true, List.any_eq_true, beq_iff_eq] at hi
  obtain ⟨h1, p, hp, he⟩ := hi
  have hlt : i < base' := by simpa [Nat.blt_eq] using h1
  obtain ⟨_, g2, g3, g4⟩ := h2.old p hp (by rw [he]; exact hlt)
  rw [he] at g2 g3 g4
  exact ⟨g2, g3, g4⟩
end
section
variable {P : Program}
theorem steps_takeAll {fr : Frame} {cs : List Frame} : ∀ (ds : List Deferred) (fr : Frame) (w w2 : World), takeAll P ds w w2 → fr.mode ≠ .run → fr.defers = ds → StepsIn (Machine.fenced P Fence.wide) P (lone fr cs w) (lone { fr with defers := [] } cs w2)
  | [], fr, w, w2, h, _, hd => by
    have e : w2 = w := h
    subst e
    have : ({ fr with defers := [] } : Frame) = fr := by cases fr; simp only at hd; subst hd; rfl
    rw [this]; exact .refl _
  | d :: ds, fr, w, w2, ⟨r, w1, h1, h2, h3⟩, hm, hd =>
    .head (fenced_wide _ _) (step_collected hm hd h1 h2) (steps_takeAll (fr := fr) ds { fr with defers := [] ++ ds } w1 w2 h3 hm rfl)
theorem leaves_app {fn : Func} {tmps : Array Value} {R : Ending → World → Prop} {rest : List Deferred} {u : FrameMode} (hu : u ≠ .run) : ∀ (ds : List Deferred) (w w2 : World), takeAll P ds w w2 → LeavesInM Fence.wide 0 P fn tmps R rest u w2 → LeavesInM Fence.wide 0 P fn tmps R (ds ++ rest) u w
  | [], w, w2, h, hr => by
    have e : w2 = w := h
    subst e
    exact hr
  | d :: ds, w, w2, ⟨r, w1, h1, h2, h3⟩, hr => ⟨hu, .inl ⟨r, w1, h1, h2, leaves_app hu ds w1 w2 h3 hr⟩⟩
/-- A deferred call's contract from its body, where the body may leave marks. -/
theorem callsD_marks {f : FuncId} {fn : Func} {c : Code} {args : Array Value} {u : FrameMode} {w : World} {R : Ending → FrameMode → World → Prop} (hf : P.funcs[f]? = some fn) (hb : fn.body = some c)
    (h : ∀ (c₀ : Frame) (cs : List Frame), c₀.mode = u → c.wpSIn Fence.wide 0 P (fun e a cs' w' => (e = .normal ∨ e = .ret) ∧ ∃ w2, takeAll P a.defers w' w2 ∧ ∃ u', cs' = { c₀ with mode := u' } :: cs ∧ ∃ v, (results fn a.tmps).run P w2 = .ok v w2 ∧ R (.returned v) u' w2)
      { tmps := args ++ Array.replicate (fn.ntmps - args.size) undef, defers := [] } (c₀ :: cs) w) : CallsDIn Fence.wide 0 P f args u w R := by
  refine ⟨trivial, fun c₀ cs hu hroom => ?_⟩
  let b : Frame := { (default : Frame) with fn := f, kind := .deferred, roundOf := none }
  have henter : Frame.enter P f args .deferred = b.atR { tmps := args ++ Array.replicate (fn.ntmps - args.size) undef, defers := [] } [.code c] := by
    simp [Frame.enter, Frame.atR, hf, hb, b]
  obtain ⟨e, a', cs', w', hl, ⟨he, w2, ht, u', rfl, v, hr, hR⟩, harr⟩ := h c₀ cs hu b [] rfl rfl trivial hroom
  rw [← henter] at harr
  have fin : ∀ (fr : Frame), fr.mode = .returning → fr.defers = a'.defers → fr.tmps = a'.tmps → fr.fn = f → fr.kind = .deferred → StepsIn (Machine.fenced P Fence.wide) P (lone (Frame.enter P f args .deferred) (c₀ :: cs) w) (lone fr ({ c₀ with mode := u' } :: cs) w') →
      ∃ e u' w' fr, R e u' w' ∧ ComesIn (Machine.fenced P Fence.wide) P (lone (Frame.enter P f args .deferred) (c₀ :: cs) w) (lone fr ({ c₀ with mode := u' } :: cs) w') e ∧ fr.kind = .deferred ∧ fr.fn = f ∧ fr.going P w' e := by
    intro fr h1 h2 h3 h4 h5 hs
    refine ⟨.returned v, u', w2, { fr with defers := [] }, hR, StepsIn.trans hs (steps_takeAll (fr := fr) a'.defers fr w' w2 ht (by rw [h1]; simp) h2), h5, h4, h1, rfl, fn, ?_, ?_⟩
    · show P.funcs[fr.fn]? = some fn
      rw [h4]; exact hf
    · show (results fn fr.tmps).run P w2 = _
      rw [h3]; exact hr
  rcases he with rfl | rfl
  · exact fin _ rfl rfl rfl rfl rfl (StepsIn.trans harr (.one (fenced_wide _ _) (stepR_end rfl)))
  · obtain ⟨todo, hs⟩ := harr.1 rfl
    exact fin _ rfl rfl rfl rfl rfl hs
/-- The first region of such a closure: recover. -/
theorem wpS_recover {id : Nat} {rc asg : Oper} {t t' : Nat} {ts : Array TypeId} {Q : Exit → Act → List Frame → World → Prop} (h1 : rc.op = .call { callee := .builtin .recover, args := #[], argTypes := ts }) (h2 : rc.dst = some t) (h3 : rc.guard = none) (h4 : asg.op = .assign (.tmp t)) (h5 : asg.dst = some t') (h6 : asg.guard = none)
    {a : Act} {c₀ : Frame} {cs : List Frame} {w : World} {v : Value} {u' : FrameMode} (hr : recoverD (c₀ :: cs) = some (v, { c₀ with mode := u' } :: cs) ∨ (recoverD (c₀ :: cs) = none ∧ v = .nilIface ∧ u' = c₀.mode)) (hsz : t < a.tmps.size)
    (hq : Q .normal ((a.put (some t) v).put (some t') v) ({ c₀ with mode := u' } :: cs) w) : (Code.region id #[rc, asg] false).wpSIn Fence.wide 0 P Q a (c₀ :: cs) w := by
  apply wpSIn_region
  have hrun : (execOp a.eval rc).run P w = .ok .recover w := by
    simp only [execOp, h1, resolve, Sem.run_bind, Sem.run_pure, Result.andThen_ok, invoke, builtin]
  have hab : ∀ (o : Oper) (a : Act) (w : World) (f : FuncId), o.about P w a.eval = some f → Fence.wide.fn f := fun _ _ _ _ _ => trivial
  have hw1 : ∀ (b : Act), Region.wanted rc (yielded #[rc, asg] b.tmps) = true := fun b => by unfold Region.wanted; rw [h3]
  have hw2 : ∀ (b : Act), Region.wanted asg (yielded #[rc, asg] b.tmps) = true := fun b => by unfold Region.wanted; rw [h6]
  have hget : (a.put (some t) v).eval (.tmp t) = v := by
    simp [Act.eval, Act.put, hsz]
  have hrun2 : (execOp (a.put (some t) v).eval asg).run P w = .ok (.value v) w := by
    simp only [execOp, h4, hget, Sem.run_pure]
  have rest : ∀ cs', wpOpsSIn Fence.wide 0 P #[rc, asg] Q [1] (a.put (some t) v) cs' w = (wpOpsSIn Fence.wide 0 P #[rc, asg] Q [1] (a.put (some t) v) cs' w) := fun _ => rfl
  have step2 : Q .normal ((a.put (some t) v).put (some t') v) ({ c₀ with mode := u' } :: cs) w → wpOpsSIn Fence.wide 0 P #[rc, asg] Q [1] (a.put (some t) v) ({ c₀ with mode := u' } :: cs) w := by
    intro hq
    unfold wpOpsSIn
    simp only [List.getElem?_toArray, List.getElem?_cons_succ, List.getElem?_cons_zero]
    refine ⟨fun f hf => trivial, ?_⟩
    rw [if_pos (hw2 _), hrun2, h5]
    exact hq
  show wpOpsSIn Fence.wide 0 P #[rc, asg] Q [0, 1] a (c₀ :: cs) w
  unfold wpOpsSIn
  simp only [List.getElem?_toArray, List.getElem?_cons_zero]
  refine ⟨fun f hf => trivial, ?_⟩
  rw [if_pos (hw1 _), hrun, h2]
  rcases hr with hr | ⟨hr, rfl, rfl⟩
  · simp only [hr]
    exact step2 hq
  · simp only [hr]
    exact step2 hq
def closDS (gfn : Func) (caps : List (Sum Nat D)) (t t' : Nat) (rv : LV) (bx : List (Nat × Box)) : DS :=
  ((⟨caps.map capLV ++ List.replicate (gfn.ntmps - caps.length) (.one .junk), bx⟩ : DS).put (some t) rv).put (some t') rv
/-- A deferred closure that recovers, run at a state. -/
theorem closure_runs {E : Env} {M : BMap} {w : World} {a : Act} {s : DS} (hst : St E M w a s) {g : FuncId} {gfn : Func} {id : Nat} {rc asg : Oper} {t t' : Nat} {ts : Array TypeId} {cR : Code} (hf : P.funcs[g]? = some gfn) (hb : gfn.body = some (.seq (.region id #[rc, asg] false) cR))
    (h1 : rc.op = .call { callee := .builtin .recover, args := #[], argTypes := ts }) (h2 : rc.dst = some t) (h3 : rc.guard = none) (h4 : asg.op = .assign (.tmp t)) (h5 : asg.dst = some t') (h6 : asg.guard = none) (hres : gfn.results = #[])
    {caps : List (Sum Nat D)} {arr : Array Value} (hsz : arr.size = caps.length) (hcap : ∀ (j : Nat) (c : Sum Nat D), caps[j]? = some c → ∃ u, arr[j]? = some u ∧ capRel w (Av E.A0 M s.bx) M c u) (base' : Nat) (hbase : E.base ≤ base') (ht : t < caps.length + (gfn.ntmps - caps.length))
    {u u' : FrameMode} {rv : LV} {v : Value} (hrv : LV.rel w (Av E.A0 M s.bx) M rv v) (hrec : ∀ c₀ cs, c₀.mode = u → recoverD (c₀ :: cs) = some (v, { c₀ with mode := u' } :: cs) ∨ (recoverD (c₀ :: cs) = none ∧ v = .nilIface ∧ u' = c₀.mode))
    {N : DS → Prop} (hT : T P base' cR (fun x s5 => (x = .normal ∨ x = .ret) ∧ N (s.back s5.bx base')) (closDS gfn caps t t' rv s.bx)) :
    CallsDIn Fence.wide 0 P g arr u w fun e u'' w' => (∃ v, e = .returned v) ∧ u'' = u' ∧ ∃ M' s6, N s6 ∧ St E M' w' a s6 := by
  refine callsD_marks hf hb fun c₀ cs hu => ?_
  refine wpSIn_seq (wpS_recover h1 h2 h3 h4 h5 h6 (hrec c₀ cs hu) (by simp [hsz]; omega) ?_)
  have hbE : Boxes (E.inl M w s.bx base' []) M w s.bx := hst.boxes.enter
  have hst0 : St (E.inl M w s.bx base' []) M w { tmps := arr ++ Array.replicate (gfn.ntmps - arr.size) undef, defers := [] } ⟨caps.map capLV ++ List.replicate (gfn.ntmps - caps.length) (.one .junk), s.bx⟩ := by
    refine ⟨rfl, by simp [hsz], fun k l hl => ?_, hbE⟩
    rw [List.getElem?_append] at hl
    simp only [List.length_map] at hl
    rw [Array.getD_eq_getD_getElem?, Array.getElem?_append, hsz]
    split at hl
    · rename_i hlt
      rw [if_pos hlt]
      simp only [List.getElem?_map, Option.map_eq_some_iff] at hl
      obtain ⟨cp, hcp, rfl⟩ := hl
      obtain ⟨u, hu, hr⟩ := hcap _ cp hcp
      rw [hu, Option.getD_some]
      cases cp with
      | inl i => exact hr
      | inr d => exact hr
    · rw [List.getElem?_replicate] at hl
      split at hl
      · cases hl; trivial
      · cases hl
  have hst4 := (hst0.put (some t) hrv).put (some t') hrv
  have hwp := hT _ M w _ rfl hst4
  refine wpSIn_of_wpIn rfl (wpIn_wide.2 (wp_mono hwp ?_))
  rintro e a5 w5 ⟨E5, hext, x, s5, M5, hx, ⟨hxx, hN⟩, hst5⟩
  obtain ⟨w6, ht6, hst6⟩ := St.atEnd (P := P) hext rfl hbE.foreign hst5
  have hB6 := hst.boxes.leave hbase hst6.boxes
  have hS6 : St E M5 w6 a (s.back s5.bx base') := by
    refine ⟨hst.defers, by simp [DS.back, hst.size], fun k l hl => ?_, hB6⟩
    simp only [DS.back, List.getElem?_map, Option.map_eq_some_iff] at hl
    obtain ⟨l', hl', rfl⟩ := hl
    exact LV.keep_rel (fun i hi => hst6.boxes.live hi) ((hst.slots k l' hl').mono (hst.boxes.keeps hst6.boxes))
  have hrr : (results gfn a5.tmps).run P w6 = .ok (.tuple #[]) w6 := by
    have := results_run (P := P) (w := w6) gfn a5.tmps [] (by rw [hres]; rfl)
    simpa using this
  refine ⟨?_, w6, ht6, u', rfl, _, hrr, ⟨_, rfl⟩, rfl, M5, _, hN, hS6⟩
  rcases hxx with rfl | rfl
  · cases e <;> simp only [XRel] at hx; exact .inl rfl
  · cases e <;> simp only [XRel] at hx; exact .inr rfl
def capsLive (caps : List (Sum Nat D)) (bx : List (Nat × Box)) (base : Nat) : Bool := caps.all fun c => match c with
  | .inl i => liveIn bx base i
  | .inr _ => true
def defFin (P : Program) (n : Nat) (fn : Func) (R : CO → Prop) (s : DS) : Prop := ∃ s', s.LeB n s' ∧ ∃ ls, dres P s' fn.results.toList = some ls ∧ R (.ret (resLV ls) s'.bx)
/-- What the body behind the defer statement must come to. -/
def defPost (P : Program) (n : Nat) (fn gfn : Func) (caps : List (Sum Nat D)) (t t' base1 base2 : Nat) (cR : Code) (R : CO → Prop) : DX → DS → Prop
  | .normal, s => capsLive caps s.bx base1 = true ∧ T P base2 cR (fun x s5 => (x = .normal ∨ x = .ret) ∧ defFin P n fn R (s.back s5.bx base2)) (closDS gfn caps t t' (.one (.dat (.con .nilIface))) s.bx)
  | .ret, s => capsLive caps s.bx base1 = true ∧ T P base2 cR (fun x s5 => (x = .normal ∨ x = .ret) ∧ defFin P n fn R (s.back s5.bx base2)) (closDS gfn caps t t' (.one (.dat (.con .nilIface))) s.bx)
  | .panic d, s => d.scalar = true ∧ capsLive caps s.bx base1 = true ∧ T P base2 cR (fun x s5 => (x = .normal ∨ x = .ret) ∧ defFin P n fn R (s.back s5.bx base2)) (closDS gfn caps t t' (.one (.dat d)) s.bx)
  | _, _ => False
set_option maxHeartbeats 1000000 in
/-- A FUNCTION WITH A DEFERRED CLOSURE THAT RECOVERS. -/
theorem CT.of_defer {f g : FuncId} {fn gfn : Func} {cA cB cR : Code} {id id2 : Nat} {mk df rc asg : Oper} {t0 t t' : Nat} {capsO : Array Operand} {ts ts2 : Array TypeId} {n : Nat} {ls : List LV} {bx : List (Nat × Box)} {R : CO → Prop} (base1 base2 : Nat)
    (hf : P.funcs[f]? = some fn) (hname : (fn.name == "runtime.NumGoroutine") = false) (hb : fn.body = some (.seq cA (.seq (.region id #[mk, df] false) cB)))
    (k1 : mk.op = .makeFunc (.func g) #[] capsO) (k2 : mk.dst = some t0) (k3 : mk.guard = none) (k4 : df.op = .defer { callee := .value (.tmp t0), args := #[], argTypes := ts2 }) (k5 : df.dst = none) (k6 : df.guard = none)
    (hgf : P.funcs[g]? = some gfn) (hgname : (gfn.name == "runtime.NumGoroutine") = false) (hgb : gfn.body = some (.seq (.region id2 #[rc, asg] false) cR))
    (h1 : rc.op = .call { callee := .builtin .recover, args := #[], argTypes := ts }) (h2 : rc.dst = some t) (h3 : rc.guard = none) (h4 : asg.op = .assign (.tmp t)) (h5 : asg.dst = some t') (h6 : asg.guard = none) (hres : gfn.results = #[])
    (hb1 : Nat.ble n base1 = true) (hb2 : Nat.ble base1 base2 = true) (ht : ∀ k, k = capsO.size → t < k + (gfn.ntmps - k))
    (hA : T P n cA (fun x s1 => x = .normal ∧ ∃ caps, capsC (capsO.toList.map s1.ev) = some caps ∧ Nat.blt t0 s1.sl.length = true ∧ T P base1 cB (defPost P n fn gfn caps t t' base1 base2 cR R) (s1.put (some t0) (.one (.fn g caps)))) ⟨ls ++ List.replicate (fn.ntmps - ls.length) (.one .junk), bx⟩) :
    CT P f n ls bx R := by
  refine ⟨⟨fn, hf, hname, by rw [hb]; rfl⟩, fun w A M vs hbx hsz hvs => ?_⟩
  have hst : St (envOf w A n M bx) M w { tmps := vs ++ Array.replicate (fn.ntmps - vs.size) undef, defers := [] } ⟨ls ++ List.replicate (fn.ntmps - ls.length) (.one .junk), bx⟩ := by
    refine ⟨rfl, by simp [hsz], fun t l hl => ?_, hbx⟩
    rw [List.getElem?_append] at hl
    split at hl
    · rename_i hlt
      obtain ⟨u, hu, hr⟩ := hvs t l hl
      have : (vs ++ Array.replicate (fn.ntmps - vs.size) undef).getD t undef = u := by
        rw [Array.getD_eq_getD_getElem?, Array.getElem?_append_left (by rw [hsz]; exact hlt), hu]; rfl
      rw [this]
      exact hr
    · rw [List.getElem?_replicate] at hl
      split at hl
      · cases hl; trivial
      · cases hl
  refine (callsIn_wide (n := 0)).1 (callsIn_of_wp_marks hf hb trivial (wpIn_wide.2 (wp_seq (wp_mono (hA _ M w _ rfl hst) ?_))) rfl)
  rintro e a1 w1 ⟨E1, hext1, x, s1, M1, hx, ⟨rfl, caps, hcaps, hlt0, hB⟩, hst1⟩
  cases e <;> simp only [XRel] at hx
  -- the closure is made and deferred
  obtain ⟨hcl, hcr⟩ := capsC_rel (w := w1) (A := Av E1.A0 M1 s1.bx) (M := M1) _ caps hcaps (fun j => (capsO.map a1.eval)[j]?) (by
    intro j l hj
    simp only [List.getElem?_map, Option.map_eq_some_iff, Array.getElem?_toList] at hj
    obtain ⟨x, hx, rfl⟩ := hj
    exact ⟨a1.eval x, by simp [hx], ev_rel hst1.size hst1.slots x⟩)
  simp only [List.length_map, Array.length_toList] at hcl
  let arr : Array Value := capsO.map a1.eval
  let fv : Value := .func (.func g) #[] arr
  let d : Deferred := ⟨.fn (.func g) arr, #[]⟩
  have hrun1 : (execOp a1.eval mk).run P w1 = .ok (.value fv) w1 := by simp [execOp, k1, Instr.makeFunc, fv, arr]
  have hsz1 : t0 < a1.tmps.size := by rw [hst1.size]; simpa [Nat.blt_eq] using hlt0
  have hget : (a1.put (some t0) fv).eval (.tmp t0) = fv := by simp [Act.eval, Act.put, hsz1]
  have hrun2 : (execOp (a1.put (some t0) fv).eval df).run P w1 = .ok (.defer d) w1 := by
    simp [execOp, k4, resolve, hget, fv, Deferred.ofValue, d]
  refine wp_seq ?_
  have hreg : (Code.region id #[mk, df] false).wp P (Exit.then (cB.wp P (bodyPostM Fence.wide 0 P fn fun e w' => ∃ M' x, R x ∧ COok (envOf w A n M bx) M' w' e x)) (bodyPostM Fence.wide 0 P fn fun e w' => ∃ M' x, R x ∧ COok (envOf w A n M bx) M' w' e x)) a1 w1 := by
    refine wp_region_lit (l := [mk, df]) ?_
    refine wpList_plain k3 fun K hK => ?_
    unfold Oper.wp
    rw [hrun1, Oper.upon_value, k2]
    refine hK _ _ (wpList_plain k6 fun K2 hK2 => ?_)
    unfold Oper.wp
    rw [hrun2, Oper.upon_defer, k5]
    refine hK2 _ _ (wpList_nil ?_)
    show cB.wp P _ _ w1
    -- the part behind it
    let E2 : Env := E1.inl M1 w1 s1.bx base1 ((d, 0) :: E1.marks)
    have hb1' : E1.base ≤ base1 := by rw [hext1.base]; exact Nat.le_of_ble_eq_true hb1
    have hB2 : Boxes E2 M1 w1 s1.bx := hst1.boxes.enter
    have hrfv : LV.rel w1 (Av E1.A0 M1 s1.bx) M1 (.one (.fn g caps)) fv := ⟨arr, rfl, by simp [arr, hcl], hcr⟩
    have hput := hst1.put (some t0) hrfv
    have hst2 : St E2 M1 w1 ({ a1.put (some t0) fv with defers := d :: (a1.put (some t0) fv).defers }.put none undef) (s1.put (some t0) (.one (.fn g caps))) := by
      refine ⟨?_, hput.size, hput.slots, hB2⟩
      show d :: (a1.put (some t0) fv).defers = E2.defs
      rw [hput.defers]; rfl
    refine wp_mono (hB E2 M1 w1 _ rfl hst2) ?_
    rintro e a3 w3 ⟨E3, hext3, x, s3, M3, hx, hq, hst3⟩
    have hback := St.back hext3 hB2.foreign hst3
    obtain ⟨l2, m1, m2, m3⟩ := hext3.marks
    obtain ⟨w4, g1, hst4⟩ := St.takes (P := P) l2 w3 m2 (fun p hp => by
      obtain ⟨a1, a2, a3, a4, a5⟩ := m3 p hp
      exact ⟨a1, a5, by rw [hst3.boxes.frame.block _ a2 a3]; exact a4⟩) hback
    have hdef3 : a3.defers = l2.map (·.1) ++ (d :: E1.defs) := by
      rw [hst3.defers]
      simp [Env.defs, m1, E2, Env.inl]
    have hcallable : Callable P g := ⟨gfn, hgf, hgname, by rw [hgb]; rfl⟩
    have core : ∀ (u u' : FrameMode) (rv : LV) (v : Value), u ≠ .run → settle u' = .returning → capsLive caps s3.bx base1 = true → LV.rel w4 (Av E2.A0 M3 s3.bx) M3 rv v →
        (∀ c₀ cs, c₀.mode = u → recoverD (c₀ :: cs) = some (v, { c₀ with mode := u' } :: cs) ∨ (recoverD (c₀ :: cs) = none ∧ v = .nilIface ∧ u' = c₀.mode)) →
        T P base2 cR (fun x s5 => (x = .normal ∨ x = .ret) ∧ defFin P n fn R (s3.back s5.bx base2)) (closDS gfn caps t t' rv s3.bx) →
        LeavesInM Fence.wide 0 P fn a3.tmps (fun e w' => ∃ M' x, R x ∧ COok (envOf w A n M bx) M' w' e x) a3.defers u w3 := by
      intro u u' rv v hu hset hlive hrv hrec hT
      rw [hdef3]
      refine leaves_app hu _ _ _ g1 ⟨hu, .inr ⟨fun h => by simp [Fence.wide] at h, .func g, arr, g, #[] ++ arr, rfl, ?_, fun _ _ => trivial, ?_⟩⟩
      · obtain ⟨fn', q1, q2, q3⟩ := hcallable
        have q3' : fn'.body.isNone = false := q3
        simp only [d, invoke, callFunc, Sem.run_bind, run_program, q1, q2, q3', Sem.run_pure, Result.andThen_ok, Bool.false_eq_true, if_false]
      · have hc4 : ∀ (j : Nat) (c : Sum Nat D), caps[j]? = some c → ∃ u, (#[] ++ arr)[j]? = some u ∧ capRel w4 (Av E2.A0 M3 s3.bx) M3 c u := by
          intro j c hj
          obtain ⟨u, hu, hr⟩ := hcr j c hj
          refine ⟨u, by simpa [arr] using hu, ?_⟩
          cases c with
          | inl i =>
            have := List.all_eq_true.1 hlive _ (List.mem_of_getElem? hj)
            simp only at this
            have hl := (hst4.boxes.live this).1
            simp only [capRel] at hr ⊢
            rw [hr, hl]
          | inr dd => exact RelD.mono (hst1.boxes.keeps hst4.boxes) hr
        have hcd := closure_runs (N := defFin P n fn R) hst4 hgf hgb h1 h2 h3 h4 h5 h6 hres (arr := #[] ++ arr) (by simp [arr, hcl]) hc4 base2 (by show base1 ≤ base2; exact Nat.le_of_ble_eq_true hb2) (by rw [hcl]; exact ht _ rfl) hrv hrec hT
        refine hcd.mono ?_
        rintro e u'' w6 ⟨⟨vv, rfl⟩, rfl, M6, s6, ⟨s7, hle7, rs, hd1, hd2⟩, hst6⟩
        show LeavesInM Fence.wide 0 P fn a3.tmps _ E1.defs (settle u'') w6
        rw [hset]
        have hst7 : St E1 M6 w6 { a3 with defers := E1.defs } s6 := ⟨rfl, hst6.size, hst6.slots, hst1.boxes.leave hb1' hst6.boxes⟩
        obtain ⟨w7, ht7, hst8⟩ := St.atEnd (P := P) hext1 rfl hbx.foreign hst7
        obtain ⟨M7, hst9⟩ := hle7 _ _ _ _ (show (envOf w A n M bx).base = n from rfl) hst8
        obtain ⟨vs', h7, h8, h9⟩ := dres_run (P := P) hst9 _ rs hd1
        exact takeAll_leaves _ _ _ ht7 ⟨_, results_run fn a3.tmps vs' h7, M7, _, hd2, hst9.boxes, _, rfl, resLV_rel h8 h9⟩
    cases x with
    | normal =>
      cases e <;> simp only [XRel] at hx
      exact core .returning .returning (.one (.dat (.con .nilIface))) .nilIface (by simp) rfl hq.1 (show RelD _ _ (.con .nilIface) _ from .con _ rfl) (fun c₀ cs hc => .inr ⟨by simp [recoverD, hc], rfl, hc.symm⟩) hq.2
    | ret =>
      cases e <;> simp only [XRel] at hx
      exact core .returning .returning (.one (.dat (.con .nilIface))) .nilIface (by simp) rfl hq.1 (show RelD _ _ (.con .nilIface) _ from .con _ rfl) (fun c₀ cs hc => .inr ⟨by simp [recoverD, hc], rfl, hc.symm⟩) hq.2
    | exit id => exact hq.elim
    | panic d' =>
      cases e <;> simp only [XRel] at hx
      obtain ⟨v, rfl, hr⟩ := hx
      exact core (.panicking [{ v := v, recovered := false }]) (.panicking [{ v := v, recovered := true }]) (.one (.dat d')) v (by simp) rfl hq.2.1 (show RelD _ _ d' v from scalar_rel hr hq.1) (fun c₀ cs hc => .inl (by simp [recoverD, hc])) hq.2.2
  exact hreg
end
end Go.DL

/-
  The data-level framework, third series, part p: a type assertion that holds; boxes that are told of one by one. Generic in the program; no condition.
-/
set_option linter.unusedVariables false
set_option linter.unusedSimpArgs false
namespace Go.DL
open Go.RowKit
section
variable {P : Program} {base : Nat} {ops : Array Oper} {Q : DX → DS → Prop} {s : DS}
/-- Some of the boxes. -/
theorem DS.le_pick (s : DS) (bx : List (Nat × Box)) (hn : decide (bx.map (·.1)).Nodup = true) (h : ∀ p ∈ bx, s.bx.lookup p.1 = some p.2) : s.Le ⟨s.sl, bx⟩ := by
  intro E M w a hst
  have hn' : (bx.map (·.1)).Nodup := of_decide_eq_true hn
  have hmem : ∀ p ∈ bx, p ∈ s.bx := fun p hp => lookup_mem (h p hp)
  have hav : ∀ b, Av E.A0 M bx b → Av E.A0 M s.bx b := fun b hb => hb.elim .inl fun ⟨p, h1, h2⟩ => .inr ⟨p, hmem p h1, h2⟩
  refine ⟨M, hst.defers, hst.size, fun t l hl => (hst.slots t l hl).mono (Keeps.sub hav), ?_⟩
  exact {
    ok := fun id b hb => (hst.boxes.ok id b (hmem _ hb)).mono (Keeps.sub hav) (fun _ _ => rfl)
    ids := hn'
    blks := nodup_fm (nodup_of_map hn') fun p hp q hq k h1 h2 => blk_inj hst.boxes.blks (hmem p hp) (hmem q hq) h1 h2
    new := fun p hp => hst.boxes.new p (hmem p hp)
    foreign := hst.boxes.foreign
    frame := hst.boxes.frame
    old := fun p hp => hst.boxes.old p (hmem p hp) }
def noIface : TypeDesc → Bool
  | .interface _ => false
  | _ => true
/-- x.(T), where x holds a T. -/
theorem TL_assert (xt t : TypeId) (d : D) {td : TypeDesc} {o : Oper} {rest : List Oper} {x : Operand} (hop : o.op = .typeAssert x xt t false) (hg : o.guard = none) (hu : P.underlying t = some td) (hni : noIface td = true) (hx : s.ev x = .one (.dat (.iface t d))) (h : TL P base ops rest Q (s.put o.dst (.one (.dat d)))) : TL P base ops (o :: rest) Q s := by
  intro E M w a hE hst
  refine wpList_plain hg fun K hK => ?_
  have rx := ev_rel hst.size hst.slots x
  rw [hx] at rx
  simp only [LV.rel, C.rel] at rx
  unfold Oper.wp
  cases hv : a.eval x <;> rw [hv] at rx <;> cases rx
  rename_i v hr
  have hrun : (execOp a.eval o).run P w = .ok (.value v) w := by
    simp only [execOp, hop, hv, Instr.typeAssert, Sem.run_bind, run_underlying hu]
    cases td <;> simp_all [noIface]
  rw [hrun]
  exact hK _ _ (h E M w _ hE (hst.put o.dst hr))
/-- The same at one stage of a drawn region. -/
theorem assertU (xt t : TypeId) (d : D) {td : TypeDesc} {o : Oper} {x : Operand} (hop : o.op = .typeAssert x xt t false) (hg : o.guard = none) (hu : P.underlying t = some td) (hni : noIface td = true) (ids : List Nat) (hids : decide ids.Nodup = true) (c : Nat) (st st' : Nat → DS) (ms : List Nat)
    (hx : ms.map (fun m => (st m).ev x) = ms.map fun _ => .one (.dat (.iface t d))) (hcov : (ms.all fun m => ((st m).put o.dst (.one (.dat d))).bx.all fun p => ids.contains p.1) = true)
    (hend : ms.map (fun m => ((st m).put o.dst (.one (.dat d))).order ids) = ms.map fun m => st' (m + 2 ^ c)) : ∀ m ∈ ms, TL P base ops [o] (QE Q (st' (m + 2 ^ c))) (st m) := by
  intro m hm
  refine TL_assert xt t d hop hg hu hni (List.map_inj_left.1 hx m hm) (TL_nilQ (QE_end ?_))
  rw [← List.map_inj_left.1 hend m hm]
  refine DS.le_order _ ids (of_decide_eq_true hids) fun p hp => ?_
  simpa using List.all_eq_true.1 (List.all_eq_true.1 hcov m hm) p hp
end
end Go.DL

/-
  Go functions as partial functions, printed by auto.py: what each returns when its partial function has a value. Conditions: those of each theorem.
-/
namespace Go.Proofs.YtimalbkjflfdoaaDoor
open Go.DL
set_option maxRecDepth 100000
set_option maxHeartbeats 4000000
set_option linter.unusedVariables false
set_option linter.unusedSimpArgs false
noncomputable def g_codec_Decode (b_1 : List UInt8) : Option ((Val × Int) ⊕ Unit) :=
  bdP (g__codec_reader_value 60 (⟨b_1⟩ : Reader) 0) (fun r_2 => if (decide (((r_2.2.rest.length : Nat) : Int) > 0)) = true then (some (.inl ((⟨0, 0, ([] : List UInt8), ([] : List Val), ([] : List (List UInt8))⟩ : Val), 20))) else some (.inl (r_2.1, 0))) (some (.inl ((⟨0, 0, ([] : List UInt8), ([] : List Val), ([] : List (List UInt8))⟩ : Val), 20)))
end Go.Proofs.YtimalbkjflfdoaaDoor

/-
  Go functions as partial functions, printed by auto.py: what each returns when its partial function has a value. Conditions: those of each theorem.
-/
namespace Go.Proofs.YtimalbkjflfdoaaDoor
open Go.DL
set_option maxRecDepth 100000
set_option maxHeartbeats 4000000
set_option linter.unusedVariables false
set_option linter.unusedSimpArgs false
theorem g_codec_Decode_ret {b_1 : List UInt8} {r : (Val × Int) ⊕ Unit} (h : g_codec_Decode b_1 = some r) : CT Tryd.prog 16 3 [(dt (.sl 1 (b_1.map elB)))] [(0, (.obj (tabP Tryd.prog))), (1, (.obj (errP 1))), (2, (.obj (errP 2)))] (CoR 3 ghosts (fun x => ((.tup [(true, (qVal x.1)), (false, [(.dat (I x.2))])]), [(0, (.obj (tabP Tryd.prog))), (1, (.obj (errP 1))), (2, (.obj (errP 2)))])) (.iface 29 (.int .i64 20)) r) := by
  refine CT.of_defer 23 43 Tryd.func16 rfl rfl rfl rfl rfl rfl rfl rfl Tryd.func31 rfl rfl rfl rfl rfl rfl rfl rfl rfl rfl rfl (by intro k e; subst e; decide) ?_
  refine T_turn [] [0] [] (mk 20 [(0, (dt (.sl 1 (b_1.map elB))))] [(0, (.obj (tabP Tryd.prog))), (1, (.obj (errP 1))), (2, (.obj (errP 2)))]) (by kernel_rfl) ?_
  refine T_regE [] (mk 20 [(0, (dt (.sl 1 (b_1.map elB)))), (2, (rf 5 0)), (3, (rf 6 0))] [(6, (.var [(.dat (I 0))])), (5, (.var [(.dat (I 0)), (.dat (I 0)), (.dat (.str ([] : List UInt8))), (.dat nilS), (.dat nilS)])), (0, (.obj (tabP Tryd.prog))), (1, (.obj (errP 1))), (2, (.obj (errP 2)))]) _ (by kernel_rfl) (z4 zt) ?_
  refine ⟨rfl, [.inl 5, .inl 6], by kernel_rfl, by kernel_rfl, ?_⟩
  refine T_turn [] [0, 2, 3] [] (mk 20 [(0, (dt (.sl 1 (b_1.map elB)))), (2, (rf 5 0)), (3, (rf 6 0))] [(6, (.var [(.dat (I 0))])), (5, (.var [(.dat (I 0)), (.dat (I 0)), (.dat (.str ([] : List UInt8))), (.dat nilS), (.dat nilS)])), (0, (.obj (tabP Tryd.prog))), (1, (.obj (errP 1))), (2, (.obj (errP 2)))]) (by kernel_rfl) ?_
  refine T_reg [] [2, 3, 4] [] (mk 20 [(2, (rf 5 0)), (3, (rf 6 0)), (4, (rf 31 0))] [(31, (.var [(.dat (.sl 1 (b_1.map elB)))])), (6, (.var [(.dat (I 0))])), (5, (.var [(.dat (I 0)), (.dat (I 0)), (.dat (.str ([] : List UInt8))), (.dat nilS), (.dat nilS)])), (0, (.obj (tabP Tryd.prog))), (1, (.obj (errP 1))), (2, (.obj (errP 2)))]) _ (by kernel_rfl) (z8 zt) ?_
  refine T_seq (T_parts ?_)
  refine TL_part 1 [] (mk 20 [(2, (rf 5 0)), (3, (rf 6 0)), (4, (rf 31 0)), (9, (rf 31 0))] [(31, (.var [(.dat (.sl 1 (b_1.map elB)))])), (6, (.var [(.dat (I 0))])), (5, (.var [(.dat (I 0)), (.dat (I 0)), (.dat (.str ([] : List UInt8))), (.dat nilS), (.dat nilS)])), (0, (.obj (tabP Tryd.prog))), (1, (.obj (errP 1))), (2, (.obj (errP 2)))]) _ (by kernel_rfl) (z2 zt) rfl ?_
  obtain ⟨y3, e4, hk5, hz6⟩ := bdP_inv h
  refine TL_ct 32 [0, 1, 2, 31] 100023 _ _ [] (g__codec_reader_value_ret e4) rfl rfl (by kernel_rfl) (by kernel_rfl) (by kernel_rfl) (by kernel_rfl) (fun l bx' hR => ?_) (fun d bx' hR => ?_)
  obtain ⟨r_2, rfl, rfl, rfl⟩ := CoR_ret hR
  replace h := hk5 _ rfl
  refine TL_turn [] [2, 3, 4, 10] [] (mk 20 [(2, (rf 5 0)), (3, (rf 6 0)), (4, (rf 31 0)), (10, (.agg (qVal r_2.1)))] [(6, (.var [(.dat (I 0))])), (5, (.var [(.dat (I 0)), (.dat (I 0)), (.dat (.str ([] : List UInt8))), (.dat nilS), (.dat nilS)])), (0, (.obj (tabP Tryd.prog))), (1, (.obj (errP 1))), (2, (.obj (errP 2))), (31, (.var [(.dat (.sl 1 (r_2.2.rest.map elB)))]))]) (by kernel_rfl) ?_
  refine TL_part 1 [] (mk 20 [(2, (rf 5 0)), (3, (rf 6 0)), (4, (rf 31 0)), (10, (.agg (qVal r_2.1)))] [(6, (.var [(.dat (I 0))])), (5, (.var (qVal r_2.1))), (0, (.obj (tabP Tryd.prog))), (1, (.obj (errP 1))), (2, (.obj (errP 2))), (31, (.var [(.dat (.sl 1 (r_2.2.rest.map elB)))]))]) _ (by kernel_rfl) (z2 zt) rfl ?_
  refine TL_nilQ ?_
  refine T_turn [] [2, 3, 4] [] (mk 20 [(2, (rf 5 0)), (3, (rf 6 0)), (4, (rf 31 0))] [(6, (.var [(.dat (I 0))])), (5, (.var (qVal r_2.1))), (0, (.obj (tabP Tryd.prog))), (1, (.obj (errP 1))), (2, (.obj (errP 2))), (31, (.var [(.dat (.sl 1 (r_2.2.rest.map elB)))]))]) (by kernel_rfl) ?_
  refine T_seq (T_parts ?_)
  refine TL_part 7 (hl 6 [(5, (zd (I ((r_2.2.rest.length : Nat) : Int))))]) (mk 20 [(2, (rf 5 0)), (3, (rf 6 0)), (4, (rf 31 0)), (11, (rf 31 0)), (12, (rf 31 0)), (13, (rf 31 0)), (14, (rf 31 0)), (15, (dt (.sl 1 (r_2.2.rest.map elB)))), (16, (di ((r_2.2.rest.length : Nat) : Int))), (17, (db (decide (((r_2.2.rest.length : Nat) : Int) > 0))))] [(6, (.var [(.dat (I 0))])), (5, (.var (qVal r_2.1))), (0, (.obj (tabP Tryd.prog))), (1, (.obj (errP 1))), (2, (.obj (errP 2))), (31, (.var [(.dat (.sl 1 (r_2.2.rest.map elB)))]))]) _ (by kernel_rfl) (z8 (z3 (zc (len_s elB r_2.2.rest) (z2 zt)))) rfl ?_
  refine TL_inlineP 43 33 [] Tryd.f33 _ rfl rfl (by kernel_rfl) Tryd.func33 rfl rfl (by decide) ?_
  refine T_turn [] [0, 1] [] (mk 6 [(0, (rf 31 0)), (1, (db (decide (((r_2.2.rest.length : Nat) : Int) > 0))))] [(6, (.var [(.dat (I 0))])), (5, (.var (qVal r_2.1))), (0, (.obj (tabP Tryd.prog))), (1, (.obj (errP 1))), (2, (.obj (errP 2))), (31, (.var [(.dat (.sl 1 (r_2.2.rest.map elB)))]))]) (by kernel_rfl) ?_
  refine T_reg [] [4] [31] (mk 6 [(4, (db (decide (((r_2.2.rest.length : Nat) : Int) > 0))))] [(6, (.var [(.dat (I 0))])), (5, (.var (qVal r_2.1))), (0, (.obj (tabP Tryd.prog))), (1, (.obj (errP 1))), (2, (.obj (errP 2)))]) _ (by kernel_rfl) (z2 zt) ?_
  refine T_cond (decide (((r_2.2.rest.length : Nat) : Int) > 0)) (by kernel_rfl) (fun b7 => ?_) (fun b7 => ?_)
  replace h := ite_t b7 h
  refine T_parts ?_
  refine TL_part 1 [] (mk 6 [(4, (db (decide (((r_2.2.rest.length : Nat) : Int) > 0)))), (5, (dt (.iface 29 (I 20))))] [(6, (.var [(.dat (I 0))])), (5, (.var (qVal r_2.1))), (0, (.obj (tabP Tryd.prog))), (1, (.obj (errP 1))), (2, (.obj (errP 2)))]) _ (by kernel_rfl) (z2 zt) rfl ?_
  refine TL_panic 29 (I 20) rfl rfl (by kernel_rfl) ?_
  refine ⟨rfl, ?_⟩
  refine ⟨rfl, by kernel_rfl, ?_⟩
  refine T_turn [] [0, 1, 2] [] (mk 9 [(0, (rf 5 0)), (1, (rf 6 0)), (2, (dt (.iface 29 (I 20))))] [(6, (.var [(.dat (I 0))])), (5, (.var (qVal r_2.1))), (0, (.obj (tabP Tryd.prog))), (1, (.obj (errP 1))), (2, (.obj (errP 2)))]) (by kernel_rfl) ?_
  refine T_seq (T_parts ?_)
  refine TL_part 1 [] (mk 9 [(0, (rf 5 0)), (1, (rf 6 0)), (2, (dt (.iface 29 (I 20)))), (4, (dt (.iface 29 (I 20))))] [(6, (.var [(.dat (I 0))])), (5, (.var (qVal r_2.1))), (0, (.obj (tabP Tryd.prog))), (1, (.obj (errP 1))), (2, (.obj (errP 2)))]) _ (by kernel_rfl) (z2 zt) rfl ?_
  refine TL_neNil 20 20 5 true rfl rfl rfl (by kernel_rfl) (.inl ⟨rfl, 29, (I 20), by kernel_rfl⟩) ?_
  refine TL_turn [] [0, 1, 2, 5] [] (mk 9 [(0, (rf 5 0)), (1, (rf 6 0)), (2, (dt (.iface 29 (I 20)))), (5, (db true))] [(6, (.var [(.dat (I 0))])), (5, (.var (qVal r_2.1))), (0, (.obj (tabP Tryd.prog))), (1, (.obj (errP 1))), (2, (.obj (errP 2)))]) (by kernel_rfl) ?_
  refine TL_nilQ ?_
  refine T_turn [] [0, 1, 2, 5] [] (mk 9 [(0, (rf 5 0)), (1, (rf 6 0)), (2, (dt (.iface 29 (I 20)))), (5, (db true))] [(6, (.var [(.dat (I 0))])), (5, (.var (qVal r_2.1))), (0, (.obj (tabP Tryd.prog))), (1, (.obj (errP 1))), (2, (.obj (errP 2)))]) (by kernel_rfl) ?_
  refine T_cond true (by kernel_rfl) (fun _ => ?_) (fun h => absurd (h.symm.trans (rfl : true = true)) (by decide))
  refine T_arr [] [0, 1, 2, 5] [] [0, 1, 2, 5, 6] (mk 9 [(0, (rf 5 0)), (1, (rf 6 0)), (2, (dt (.iface 29 (I 20)))), (5, (db true))] [(0, (.obj (tabP Tryd.prog))), (1, (.obj (errP 1))), (2, (.obj (errP 2))), (5, (.var (qVal r_2.1))), (6, (.var [(.dat (I 0))]))]) (by kernel_rfl) ?_
  refine T_stC [{}, {}, {}, {}, {}] _ [(0, 6, (.agg [(.dat (I 0)), (.dat (I 0)), (.dat (.str ([] : List UInt8))), (.dat nilS), (.dat nilS)])), (1, 7, (dt (.iface 29 (I 20)))), (2, 8, (di 20))] [(3, 5, some (.var [(.dat (I 0)), (.dat (I 0)), (.dat (.str ([] : List UInt8))), (.dat nilS), (.dat nilS)])), (4, 6, some (.var [(.dat (I 20))]))] [0, 1, 2, 5, 6] 5 [0, 0, 2, 1, 15] 28 [0, 4, 8, 12, 28] [2] none (by kernel_rfl) (by decide) (by kernel_rfl) (by kernel_rfl) (by kernel_rfl) (by kernel_rfl) (by kernel_rfl) (by kernel_rfl) (by kernel_rfl) (zs zt (zs zt (zs zt (zs (zc zt zt) (zs (zc zt zt) zS))))) ?_ (fun _ => ?_)
  intro c hc; simp only [List.mem_cons, List.not_mem_nil, or_false] at hc; rcases hc with rfl
  exact ⟨_, rfl, assertU 20 29 (I 20) rfl rfl (td := (.int .i64)) (by kernel_rfl) rfl [0, 1, 2, 5, 6] (by decide) 2 _ _ _ (by kernel_rfl) (by kernel_rfl) (by kernel_rfl)⟩
  obtain rfl := some_inv h
  exact ⟨.inl rfl, (mk 20 [(2, (dt (.ptr [(I 0), (I 0), (.str ([] : List UInt8)), (.sl 5 (([] : List Val).map encVal)), (.sl 1 (([] : List (List UInt8)).map elStr))]))), (3, (dt (.ptr [(I 20)])))] [(0, (.obj (tabP Tryd.prog))), (1, (.obj (errP 1))), (2, (.obj (errP 2)))]), arr [.nilC 5 3 5, .nilC 5 4 1, .ice 5, .ice 6] [2, 3] [] [0, 1, 2] (by kernel_rfl), [(.agg [(.dat (I 0)), (.dat (I 0)), (.dat (.str ([] : List UInt8))), (.dat (.sl 5 (([] : List Val).map encVal))), (.dat (.sl 1 (([] : List (List UInt8)).map elStr)))]), (di 20)], by kernel_rfl, rfl⟩
  replace h := ite_f b7 h
  refine T_skip ?_
  refine ⟨[], by kernel_rfl, ?_⟩
  refine TL_turn [] [2, 3, 18] [] (mk 20 [(2, (rf 5 0)), (3, (rf 6 0)), (18, (.tup []))] [(6, (.var [(.dat (I 0))])), (5, (.var (qVal r_2.1))), (0, (.obj (tabP Tryd.prog))), (1, (.obj (errP 1))), (2, (.obj (errP 2)))]) (by kernel_rfl) ?_
  refine TL_nilQ ?_
  refine T_turn [] [2, 3] [] (mk 20 [(2, (rf 5 0)), (3, (rf 6 0))] [(6, (.var [(.dat (I 0))])), (5, (.var (qVal r_2.1))), (0, (.obj (tabP Tryd.prog))), (1, (.obj (errP 1))), (2, (.obj (errP 2)))]) (by kernel_rfl) ?_
  refine T_reg [] [2, 3] [] (mk 20 [(2, (rf 5 0)), (3, (rf 6 0))] [(6, (.var [(.dat (I 0))])), (5, (.var (qVal r_2.1))), (0, (.obj (tabP Tryd.prog))), (1, (.obj (errP 1))), (2, (.obj (errP 2)))]) _ (by kernel_rfl) (z6 zt) ?_
  refine T_ret ?_
  refine ⟨by kernel_rfl, ?_⟩
  refine T_turn [] [0, 1, 2] [] (mk 9 [(0, (rf 5 0)), (1, (rf 6 0)), (2, (dt (.con .nilIface)))] [(6, (.var [(.dat (I 0))])), (5, (.var (qVal r_2.1))), (0, (.obj (tabP Tryd.prog))), (1, (.obj (errP 1))), (2, (.obj (errP 2)))]) (by kernel_rfl) ?_
  refine T_seq (T_parts ?_)
  refine TL_part 1 [] (mk 9 [(0, (rf 5 0)), (1, (rf 6 0)), (2, (dt (.con .nilIface))), (4, (dt (.con .nilIface)))] [(6, (.var [(.dat (I 0))])), (5, (.var (qVal r_2.1))), (0, (.obj (tabP Tryd.prog))), (1, (.obj (errP 1))), (2, (.obj (errP 2)))]) _ (by kernel_rfl) (z2 zt) rfl ?_
  refine TL_neNil 20 20 5 false rfl rfl rfl (by kernel_rfl) (.inr ⟨rfl, by kernel_rfl⟩) ?_
  refine TL_turn [] [0, 1, 2, 5] [] (mk 9 [(0, (rf 5 0)), (1, (rf 6 0)), (2, (dt (.con .nilIface))), (5, (db false))] [(6, (.var [(.dat (I 0))])), (5, (.var (qVal r_2.1))), (0, (.obj (tabP Tryd.prog))), (1, (.obj (errP 1))), (2, (.obj (errP 2)))]) (by kernel_rfl) ?_
  refine TL_nilQ ?_
  refine T_turn [] [0, 1, 2, 5] [] (mk 9 [(0, (rf 5 0)), (1, (rf 6 0)), (2, (dt (.con .nilIface))), (5, (db false))] [(6, (.var [(.dat (I 0))])), (5, (.var (qVal r_2.1))), (0, (.obj (tabP Tryd.prog))), (1, (.obj (errP 1))), (2, (.obj (errP 2)))]) (by kernel_rfl) ?_
  refine T_cond false (by kernel_rfl) (fun h => absurd (h.symm.trans (rfl : false = false)) (by decide)) (fun _ => ?_)
  refine T_skip ?_
  obtain rfl := some_inv h
  exact ⟨.inl rfl, (mk 20 [(2, (dt (.ptr [(I r_2.1.k), (I r_2.1.n), (.str r_2.1.s), (.sl 5 (r_2.1.l.map encVal)), (.sl 1 (r_2.1.ks.map elStr))]))), (3, (dt (.ptr [(I 0)])))] [(0, (.obj (tabP Tryd.prog))), (1, (.obj (errP 1))), (2, (.obj (errP 2)))]), arr [.ice 5, .ice 6] [2, 3] [] [0, 1, 2] (by kernel_rfl), [(.agg (qVal r_2.1)), (di 0)], by kernel_rfl, rfl⟩
  obtain ⟨rfl, rfl, hlk⟩ := CoR_pan hR
  replace h := hz6 rfl
  refine ⟨rfl, by kernel_rfl, ?_⟩
  refine T_le (DS.le_pick _ [(0, (.obj (tabP Tryd.prog))), (1, (.obj (errP 1))), (2, (.obj (errP 2))), (5, (.var [(.dat (I 0)), (.dat (I 0)), (.dat (.str ([] : List UInt8))), (.dat nilS), (.dat nilS)])), (6, (.var [(.dat (I 0))]))] (by decide) ?_) ?_
  intro p hp; simp only [List.mem_cons, List.not_mem_nil, or_false] at hp; rcases hp with rfl | rfl | rfl | rfl | rfl
  exact (after_lk (by kernel_rfl) rfl).trans (by rw [hlk 0 (by decide)]; kernel_rfl)
  exact (after_lk (by kernel_rfl) rfl).trans (by rw [hlk 1 (by decide)]; kernel_rfl)
  exact (after_lk (by kernel_rfl) rfl).trans (by rw [hlk 2 (by decide)]; kernel_rfl)
  kernel_rfl
  kernel_rfl
  refine T_turn [] [0, 1, 2] [] (mk 9 [(0, (rf 5 0)), (1, (rf 6 0)), (2, (dt (.iface 29 (I 20))))] [(0, (.obj (tabP Tryd.prog))), (1, (.obj (errP 1))), (2, (.obj (errP 2))), (5, (.var [(.dat (I 0)), (.dat (I 0)), (.dat (.str ([] : List UInt8))), (.dat nilS), (.dat nilS)])), (6, (.var [(.dat (I 0))]))]) (by kernel_rfl) ?_
  refine T_seq (T_parts ?_)
  refine TL_part 1 [] (mk 9 [(0, (rf 5 0)), (1, (rf 6 0)), (2, (dt (.iface 29 (I 20)))), (4, (dt (.iface 29 (I 20))))] [(0, (.obj (tabP Tryd.prog))), (1, (.obj (errP 1))), (2, (.obj (errP 2))), (5, (.var [(.dat (I 0)), (.dat (I 0)), (.dat (.str ([] : List UInt8))), (.dat nilS), (.dat nilS)])), (6, (.var [(.dat (I 0))]))]) _ (by kernel_rfl) (z2 zt) rfl ?_
  refine TL_neNil 20 20 5 true rfl rfl rfl (by kernel_rfl) (.inl ⟨rfl, 29, (I 20), by kernel_rfl⟩) ?_
  refine TL_turn [] [0, 1, 2, 5] [] (mk 9 [(0, (rf 5 0)), (1, (rf 6 0)), (2, (dt (.iface 29 (I 20)))), (5, (db true))] [(0, (.obj (tabP Tryd.prog))), (1, (.obj (errP 1))), (2, (.obj (errP 2))), (5, (.var [(.dat (I 0)), (.dat (I 0)), (.dat (.str ([] : List UInt8))), (.dat nilS), (.dat nilS)])), (6, (.var [(.dat (I 0))]))]) (by kernel_rfl) ?_
  refine TL_nilQ ?_
  refine T_turn [] [0, 1, 2, 5] [] (mk 9 [(0, (rf 5 0)), (1, (rf 6 0)), (2, (dt (.iface 29 (I 20)))), (5, (db true))] [(0, (.obj (tabP Tryd.prog))), (1, (.obj (errP 1))), (2, (.obj (errP 2))), (5, (.var [(.dat (I 0)), (.dat (I 0)), (.dat (.str ([] : List UInt8))), (.dat nilS), (.dat nilS)])), (6, (.var [(.dat (I 0))]))]) (by kernel_rfl) ?_
  refine T_cond true (by kernel_rfl) (fun _ => ?_) (fun h => absurd (h.symm.trans (rfl : true = true)) (by decide))
  refine T_arr [] [0, 1, 2, 5] [] [0, 1, 2, 5, 6] (mk 9 [(0, (rf 5 0)), (1, (rf 6 0)), (2, (dt (.iface 29 (I 20)))), (5, (db true))] [(0, (.obj (tabP Tryd.prog))), (1, (.obj (errP 1))), (2, (.obj (errP 2))), (5, (.var [(.dat (I 0)), (.dat (I 0)), (.dat (.str ([] : List UInt8))), (.dat nilS), (.dat nilS)])), (6, (.var [(.dat (I 0))]))]) (by kernel_rfl) ?_
  refine T_stC [{}, {}, {}, {}, {}] _ [(0, 6, (.agg [(.dat (I 0)), (.dat (I 0)), (.dat (.str ([] : List UInt8))), (.dat nilS), (.dat nilS)])), (1, 7, (dt (.iface 29 (I 20)))), (2, 8, (di 20))] [(4, 6, some (.var [(.dat (I 20))]))] [0, 1, 2, 5, 6] 5 [0, 0, 2, 1, 15] 28 [0, 4, 8, 12, 28] [2] none (by kernel_rfl) (by decide) (by kernel_rfl) (by kernel_rfl) (by kernel_rfl) (by kernel_rfl) (by kernel_rfl) (by kernel_rfl) (by kernel_rfl) (zs zt (zs zt (zs zt (zs (zc zt zt) (zs (zc zt zt) zS))))) ?_ (fun _ => ?_)
  intro c hc; simp only [List.mem_cons, List.not_mem_nil, or_false] at hc; rcases hc with rfl
  exact ⟨_, rfl, assertU 20 29 (I 20) rfl rfl (td := (.int .i64)) (by kernel_rfl) rfl [0, 1, 2, 5, 6] (by decide) 2 _ _ _ (by kernel_rfl) (by kernel_rfl) (by kernel_rfl)⟩
  obtain rfl := some_inv h
  exact ⟨.inl rfl, (mk 20 [(2, (dt (.ptr [(I 0), (I 0), (.str ([] : List UInt8)), (.sl 5 (([] : List Val).map encVal)), (.sl 1 (([] : List (List UInt8)).map elStr))]))), (3, (dt (.ptr [(I 20)])))] [(0, (.obj (tabP Tryd.prog))), (1, (.obj (errP 1))), (2, (.obj (errP 2)))]), arr [.nilC 5 3 5, .nilC 5 4 1, .ice 5, .ice 6] [2, 3] [] [0, 1, 2] (by kernel_rfl), [(.agg [(.dat (I 0)), (.dat (I 0)), (.dat (.str ([] : List UInt8))), (.dat (.sl 5 (([] : List Val).map encVal))), (.dat (.sl 1 (([] : List (List UInt8)).map elStr)))]), (di 20)], by kernel_rfl, rfl⟩

end Go.Proofs.YtimalbkjflfdoaaDoor

/-
  Go functions as partial functions, printed by auto.py: what each returns when its partial function has a value. Conditions: those of each theorem.
-/
namespace Go.Proofs.YtimalbkjflfdoaaDoor
open Go.DL
set_option maxRecDepth 100000
set_option maxHeartbeats 4000000
set_option linter.unusedVariables false
set_option linter.unusedSimpArgs false
noncomputable def g_strconv_AppendInt_j1 (base_3 : Int) (u_4 : Int) (l_5 : List UInt8) : Option ((List UInt8) ⊕ Unit) :=
  ck (l_5.length + 20 ≤ 140737488355328) <| ck ((0 : Int) ≤ u_4 ∧ (u_4 : Int) < 18446744073709551616) <| ck ((base_3 : Int) = 10) <| some (.inl (l_5 ++ Lib.decDigits u_4.toNat))
noncomputable def g_strconv_AppendInt (dst_1 : List UInt8) (i_2 : Int) (base_3 : Int) : Option ((List UInt8) ⊕ Unit) :=
  if (decide (i_2 < 0)) = true then (ck ((dst_1.length + ([45] : List UInt8).length) * 1 ≤ 140737488355328) <| g_strconv_AppendInt_j1 base_3 (IntKind.u64.wrap (0 - (IntKind.u64.wrap i_2))) (dst_1 ++ ([45] : List UInt8))) else g_strconv_AppendInt_j1 base_3 (IntKind.u64.wrap i_2) dst_1
noncomputable def g_codec_text (b_1 : List UInt8) (s_2 : List UInt8) : Option ((List UInt8) ⊕ Unit) :=
  bdP (g_strconv_AppendInt b_1 ((s_2.length : Nat) : Int) 10) (fun r_3 => ck ((r_3.length + ([58] : List UInt8).length) * 1 ≤ 140737488355328) <| ck (((r_3 ++ ([58] : List UInt8)).length + s_2.length) * 1 ≤ 140737488355328) <| some (.inl ((r_3 ++ ([58] : List UInt8)) ++ s_2))) (some (.inr ()))
noncomputable def g_codec_newWriter_1 (b_1 : List UInt8) (v_2 : Val) : Option ((List UInt8) ⊕ Unit) :=
  ck ((b_1.length + ([105] : List UInt8).length) * 1 ≤ 140737488355328) <| bdP (g_strconv_AppendInt (b_1 ++ ([105] : List UInt8)) v_2.n 10) (fun r_4 => ck ((r_4.length + ([101] : List UInt8).length) * 1 ≤ 140737488355328) <| some (.inl (r_4 ++ ([101] : List UInt8)))) (some (.inr ()))
noncomputable def g_codec_newWriter_2 (b_1 : List UInt8) (v_2 : Val) : Option ((List UInt8) ⊕ Unit) :=
  bdP (g_codec_text b_1 v_2.s) (fun r_3 => some (.inl r_3)) (some (.inr ()))
noncomputable def g_codec_newWriter_3_s_j1 (l_4 : List UInt8) : Option ((List UInt8) ⊕ Unit) :=
  ck ((l_4.length + ([101] : List UInt8).length) * 1 ≤ 140737488355328) <| some (.inl (l_4 ++ ([101] : List UInt8)))
noncomputable def g_codec_newWriter_3_s_j3 (v_6 : Nat) (v_2 : Val) (l_11 : List UInt8) : Option ((Nat × (List UInt8)) ⊕ ((List UInt8) ⊕ Unit)) :=
  ckI (((v_6 : Nat) : Int) + 1) <| some (.inl (v_6 + 1, l_11))
noncomputable def g_codec_newWriter_3_s_l2 (v_2 : Val) (rc43 : (List UInt8) → (Val) → Option ((List UInt8) ⊕ Unit)) (rc44 : (List UInt8) → (Val) → Option ((List UInt8) ⊕ Unit)) (v : Nat × (List UInt8)) : Option ((Nat × (List UInt8)) ⊕ ((List UInt8) ⊕ Unit)) :=
  match v with | (v_6, l_7) => if (decide (((v_6 : Nat) : Int) < ((v_2.l.length : Nat) : Int))) = true then (gn v_2.l v_6 fun x_13 => if (x_13.k == 0) = true then (ck False none) else if (x_13.k == 1) = true then (bdP (g_codec_newWriter_1 l_7 x_13) (fun r_19 => g_codec_newWriter_3_s_j3 v_6 v_2 r_19) (up (some (.inr ())))) else if (x_13.k == 2) = true then (bdP (g_codec_newWriter_2 l_7 x_13) (fun r_25 => g_codec_newWriter_3_s_j3 v_6 v_2 r_25) (up (some (.inr ())))) else if (x_13.k == 3) = true then (bdP (rc43 l_7 x_13) (fun r_31 => g_codec_newWriter_3_s_j3 v_6 v_2 r_31) (up (some (.inr ())))) else ck ((x_13.k : Int) = 4) <| bdP (rc44 l_7 x_13) (fun r_37 => g_codec_newWriter_3_s_j3 v_6 v_2 r_37) (up (some (.inr ())))) else up (g_codec_newWriter_3_s_j1 l_7)
noncomputable def g_codec_newWriter_3_s (rc43 rc44 : (List UInt8) → (Val) → Option ((List UInt8) ⊕ Unit)) (b_1 : List UInt8) (v_2 : Val) : Option ((List UInt8) ⊕ Unit) :=
  ck ((b_1.length + ([108] : List UInt8).length) * 1 ≤ 140737488355328) <| loopO (g_codec_newWriter_3_s_l2 v_2 rc43 rc44) (0, (b_1 ++ ([108] : List UInt8)))
noncomputable def g_codec_newWriter_4_s_j1 (l_4 : List UInt8) : Option ((List UInt8) ⊕ Unit) :=
  ck ((l_4.length + ([101] : List UInt8).length) * 1 ≤ 140737488355328) <| some (.inl (l_4 ++ ([101] : List UInt8)))
noncomputable def g_codec_newWriter_4_s_j3 (v_6 : Nat) (v_2 : Val) (l_11 : List UInt8) : Option ((Nat × (List UInt8)) ⊕ ((List UInt8) ⊕ Unit)) :=
  ckI (((v_6 : Nat) : Int) + 1) <| some (.inl (v_6 + 1, l_11))
noncomputable def g_codec_newWriter_4_s_l2 (v_2 : Val) (rc43 : (List UInt8) → (Val) → Option ((List UInt8) ⊕ Unit)) (rc44 : (List UInt8) → (Val) → Option ((List UInt8) ⊕ Unit)) (v : Nat × (List UInt8)) : Option ((Nat × (List UInt8)) ⊕ ((List UInt8) ⊕ Unit)) :=
  match v with | (v_6, l_7) => if (decide (((v_6 : Nat) : Int) < ((v_2.l.length : Nat) : Int))) = true then (gn v_2.l v_6 fun x_13 => if (x_13.k == 0) = true then (gn v_2.ks v_6 fun x_18 => bdP (g_codec_text l_7 x_18) (fun r_22 => ck False none) (up (some (.inr ())))) else if (x_13.k == 1) = true then (gn v_2.ks v_6 fun x_28 => bdP (g_codec_text l_7 x_28) (fun r_32 => bdP (g_codec_newWriter_1 r_32 x_13) (fun r_37 => g_codec_newWriter_4_s_j3 v_6 v_2 r_37) (up (some (.inr ())))) (up (some (.inr ())))) else if (x_13.k == 2) = true then (gn v_2.ks v_6 fun x_43 => bdP (g_codec_text l_7 x_43) (fun r_47 => bdP (g_codec_newWriter_2 r_47 x_13) (fun r_52 => g_codec_newWriter_4_s_j3 v_6 v_2 r_52) (up (some (.inr ())))) (up (some (.inr ())))) else if (x_13.k == 3) = true then (gn v_2.ks v_6 fun x_58 => bdP (g_codec_text l_7 x_58) (fun r_62 => bdP (rc43 r_62 x_13) (fun r_67 => g_codec_newWriter_4_s_j3 v_6 v_2 r_67) (up (some (.inr ())))) (up (some (.inr ())))) else ck ((x_13.k : Int) = 4) <| gn v_2.ks v_6 fun x_73 => bdP (g_codec_text l_7 x_73) (fun r_77 => bdP (rc44 r_77 x_13) (fun r_82 => g_codec_newWriter_4_s_j3 v_6 v_2 r_82) (up (some (.inr ())))) (up (some (.inr ())))) else up (g_codec_newWriter_4_s_j1 l_7)
noncomputable def g_codec_newWriter_4_s (rc43 rc44 : (List UInt8) → (Val) → Option ((List UInt8) ⊕ Unit)) (b_1 : List UInt8) (v_2 : Val) : Option ((List UInt8) ⊕ Unit) :=
  ck ((b_1.length + ([100] : List UInt8).length) * 1 ≤ 140737488355328) <| loopO (g_codec_newWriter_4_s_l2 v_2 rc43 rc44) (0, (b_1 ++ ([100] : List UInt8)))
end Go.Proofs.YtimalbkjflfdoaaDoor

/-
  Go functions as partial functions, printed by auto.py: what each returns when its partial function has a value. Conditions: those of each theorem.
-/
namespace Go.Proofs.YtimalbkjflfdoaaDoor
open Go.DL
set_option maxRecDepth 100000
set_option maxHeartbeats 4000000
set_option linter.unusedVariables false
set_option linter.unusedSimpArgs false
theorem g_strconv_AppendInt_ret {dst_1 : List UInt8} {i_2 : Int} {base_3 : Int} {r : (List UInt8) ⊕ Unit} (h : g_strconv_AppendInt dst_1 i_2 base_3 = some r) : CT Tryd.prog 40 4 [(ow 3), (di i_2), (di base_3)] [(0, (.obj (tabP Tryd.prog))), (1, (.obj (errP 1))), (2, (.obj (errP 2))), (3, (.row 5 1 (dst_1.map elB)))] (CoR 3 ghosts (fun x => ((ow 4), [(0, (.obj (tabP Tryd.prog))), (1, (.obj (errP 1))), (2, (.obj (errP 2))), (4, (.row 5 1 (x.map elB)))])) (.iface 29 (.int .i64 20)) r) := by
  refine CT.of_T Tryd.func40 (by kernel_rfl) rfl ?_
  refine T_turn [] [0, 1, 2] [] (mk 11 [(0, (ow 3)), (1, (di i_2)), (2, (di base_3))] [(0, (.obj (tabP Tryd.prog))), (1, (.obj (errP 1))), (2, (.obj (errP 2))), (3, (.row 5 1 (dst_1.map elB)))]) (by kernel_rfl) ?_
  refine T_reg [] [0, 1, 2] [] (mk 11 [(0, (ow 3)), (1, (di i_2)), (2, (di base_3))] [(0, (.obj (tabP Tryd.prog))), (1, (.obj (errP 1))), (2, (.obj (errP 2))), (3, (.row 5 1 (dst_1.map elB)))]) _ (by kernel_rfl) (z2 zt) ?_
  refine T_seq (T_parts ?_)
  refine TL_part 3 [] (mk 11 [(0, (ow 3)), (1, (di i_2)), (2, (di base_3)), (7, (ow 3)), (8, (di i_2)), (9, (di base_3))] [(0, (.obj (tabP Tryd.prog))), (1, (.obj (errP 1))), (2, (.obj (errP 2))), (3, (.row 5 1 (dst_1.map elB)))]) _ (by kernel_rfl) (z6 zt) rfl ?_
  refine TL_inlineP 15 54 [] Tryd.f54 _ rfl rfl (by kernel_rfl) Tryd.func54 rfl rfl (by decide) ?_
  refine T_turn [] [0, 1, 2] [] (mk 21 [(0, (ow 3)), (1, (di i_2)), (2, (di base_3))] [(0, (.obj (tabP Tryd.prog))), (1, (.obj (errP 1))), (2, (.obj (errP 2))), (3, (.row 5 1 (dst_1.map elB)))]) (by kernel_rfl) ?_
  refine T_reg [] [0, 1, 2] [] (mk 21 [(0, (ow 3)), (1, (di i_2)), (2, (di base_3))] [(0, (.obj (tabP Tryd.prog))), (1, (.obj (errP 1))), (2, (.obj (errP 2))), (3, (.row 5 1 (dst_1.map elB)))]) _ (by kernel_rfl) (z2 zt) ?_
  refine T_reg [] [0, 1, 2, 7] [] (mk 21 [(0, (ow 3)), (1, (di i_2)), (2, (di base_3)), (7, (dt (.int .u64 (IntKind.u64.wrap i_2))))] [(0, (.obj (tabP Tryd.prog))), (1, (.obj (errP 1))), (2, (.obj (errP 2))), (3, (.row 5 1 (dst_1.map elB)))]) _ (by kernel_rfl) (z6 zt) ?_
  refine T_seqJ (α := Int × (List UInt8)) (fun ((u_4, l_5) : Int × (List UInt8)) => (mk 21 [(0, (ow 29)), (2, (di base_3)), (7, (dt (.int .u64 u_4)))] [(0, (.obj (tabP Tryd.prog))), (1, (.obj (errP 1))), (2, (.obj (errP 2))), (29, (.row 5 1 (l_5.map elB)))])) (fun ((u_4, l_5) : Int × (List UInt8)) => g_strconv_AppendInt_j1 base_3 u_4 l_5 = some r) (fun v h => ?_) ?_
  obtain ⟨u_4, l_5⟩ := v
  refine T_seq (T_parts ?_)
  refine TL_part 3 [] (mk 21 [(0, (ow 29)), (2, (di base_3)), (7, (dt (.int .u64 u_4))), (17, (ow 29)), (18, (dt (.int .u64 u_4))), (19, (di base_3))] [(0, (.obj (tabP Tryd.prog))), (1, (.obj (errP 1))), (2, (.obj (errP 2))), (29, (.row 5 1 (l_5.map elB)))]) _ (by kernel_rfl) (z6 zt) rfl ?_
  obtain ⟨c6, h⟩ := ck_inv h
  obtain ⟨c7, h⟩ := ck_inv h
  obtain ⟨c8, h⟩ := ck_inv h
  refine TL_appUint Tryd.lappend 20 0 35 (some 29) l_5 u_4 c8 rfl rfl rfl (by kernel_rfl) (by kernel_rfl) (by kernel_rfl) (by kernel_rfl) c7 (by kernel_rfl) c6 (by kernel_rfl) ?_
  refine TL_turn [] [20] [] (mk 21 [(20, (ow 35))] [(35, (.row 5 1 ((l_5 ++ Lib.decDigits u_4.toNat).map elB))), (0, (.obj (tabP Tryd.prog))), (1, (.obj (errP 1))), (2, (.obj (errP 2)))]) (by kernel_rfl) ?_
  refine TL_part 1 [] (mk 21 [(6, (ow 35)), (20, (ow 35))] [(35, (.row 5 1 ((l_5 ++ Lib.decDigits u_4.toNat).map elB))), (0, (.obj (tabP Tryd.prog))), (1, (.obj (errP 1))), (2, (.obj (errP 2)))]) _ (by kernel_rfl) (z2 zt) rfl ?_
  refine TL_nilQ ?_
  refine T_turn [] [6] [] (mk 21 [(6, (ow 35))] [(35, (.row 5 1 ((l_5 ++ Lib.decDigits u_4.toNat).map elB))), (0, (.obj (tabP Tryd.prog))), (1, (.obj (errP 1))), (2, (.obj (errP 2)))]) (by kernel_rfl) ?_
  refine T_ret ?_
  refine ⟨[(ow 35)], by kernel_rfl, ?_⟩
  refine TL_turn [] [10] [] (mk 11 [(10, (ow 35))] [(35, (.row 5 1 ((l_5 ++ Lib.decDigits u_4.toNat).map elB))), (0, (.obj (tabP Tryd.prog))), (1, (.obj (errP 1))), (2, (.obj (errP 2)))]) (by kernel_rfl) ?_
  refine TL_part 1 [] (mk 11 [(6, (ow 35)), (10, (ow 35))] [(35, (.row 5 1 ((l_5 ++ Lib.decDigits u_4.toNat).map elB))), (0, (.obj (tabP Tryd.prog))), (1, (.obj (errP 1))), (2, (.obj (errP 2)))]) _ (by kernel_rfl) (z2 zt) rfl ?_
  refine TL_nilQ ?_
  refine T_turn [] [6] [] (mk 11 [(6, (ow 35))] [(35, (.row 5 1 ((l_5 ++ Lib.decDigits u_4.toNat).map elB))), (0, (.obj (tabP Tryd.prog))), (1, (.obj (errP 1))), (2, (.obj (errP 2)))]) (by kernel_rfl) ?_
  refine T_arr [.ren 35 4] [6] [35] [0, 1, 2, 4] (mk 11 [(6, (ow 4))] [(0, (.obj (tabP Tryd.prog))), (1, (.obj (errP 1))), (2, (.obj (errP 2))), (4, (.row 5 1 ((l_5 ++ Lib.decDigits u_4.toNat).map elB)))]) (by kernel_rfl) ?_
  refine T_ret ?_
  obtain rfl := some_inv h
  exact ⟨[(ow 4)], by kernel_rfl, rfl⟩
  refine T_reg [] [0, 2, 7, 11] [] (mk 21 [(0, (ow 3)), (2, (di base_3)), (7, (dt (.int .u64 (IntKind.u64.wrap i_2)))), (11, (db (decide (i_2 < 0))))] [(0, (.obj (tabP Tryd.prog))), (1, (.obj (errP 1))), (2, (.obj (errP 2))), (3, (.row 5 1 (dst_1.map elB)))]) _ (by kernel_rfl) (z4 zt) ?_
  refine T_cond (decide (i_2 < 0)) (by kernel_rfl) (fun b9 => ?_) (fun b9 => ?_)
  replace h := ite_t b9 h
  obtain ⟨c10, h⟩ := ck_inv h
  refine T_reg [zn, zn, (zd (.sl 1 ((dst_1 ++ ([45] : List UInt8)).map elB)))] [0, 2, 7] [28] (mk 21 [(0, (ow 29)), (2, (di base_3)), (7, (dt (.int .u64 (IntKind.u64.wrap i_2))))] [(29, (.row 5 1 ((dst_1 ++ ([45] : List UInt8)).map elB))), (0, (.obj (tabP Tryd.prog))), (1, (.obj (errP 1))), (2, (.obj (errP 2)))]) _ (by kernel_rfl) (z3 (zc (show dfill (fun i => some (i * 1, 1)) (List.replicate (1 * 1) .junk) [(0, [(.dat (.int .u8 45))])] = some ((flat (([45] : List UInt8).map elB)).map .dat) from rfl) (z1 (zc (app_s elB elB_one dst_1 ([45] : List UInt8) c10) (z2 zt))))) ?_
  exact T_regJ [] [] [0, 2, 7] [] [0, 1, 2, 29] _ _ (by kernel_rfl) (z6 zt) (fun s hs => Exists.intro ((IntKind.u64.wrap (0 - (IntKind.u64.wrap i_2))), (dst_1 ++ ([45] : List UInt8))) (And.intro h hs))
  replace h := ite_f b9 h
  refine T_skip ?_
  exact Exists.intro ((IntKind.u64.wrap i_2), dst_1) (And.intro h (arr [.ren 3 29] [0, 2, 7] [] [0, 1, 2, 29] (by kernel_rfl)))

theorem g_codec_text_ret {b_1 : List UInt8} {s_2 : List UInt8} {r : (List UInt8) ⊕ Unit} (h : g_codec_text b_1 s_2 = some r) : CT Tryd.prog 42 4 [(ow 3), (dt (.str s_2))] [(0, (.obj (tabP Tryd.prog))), (1, (.obj (errP 1))), (2, (.obj (errP 2))), (3, (.row 5 1 (b_1.map elB)))] (CoR 3 ghosts (fun x => ((ow 4), [(0, (.obj (tabP Tryd.prog))), (1, (.obj (errP 1))), (2, (.obj (errP 2))), (4, (.row 5 1 (x.map elB)))])) (.iface 29 (.int .i64 20)) r) := by
  refine CT.of_T Tryd.func42 (by kernel_rfl) rfl ?_
  refine T_turn [] [0, 1] [] (mk 13 [(0, (ow 3)), (1, (dt (.str s_2)))] [(0, (.obj (tabP Tryd.prog))), (1, (.obj (errP 1))), (2, (.obj (errP 2))), (3, (.row 5 1 (b_1.map elB)))]) (by kernel_rfl) ?_
  refine T_reg [] [0, 1] [] (mk 13 [(0, (ow 3)), (1, (dt (.str s_2)))] [(0, (.obj (tabP Tryd.prog))), (1, (.obj (errP 1))), (2, (.obj (errP 2))), (3, (.row 5 1 (b_1.map elB)))]) _ (by kernel_rfl) (z2 zt) ?_
  refine T_seq (T_parts ?_)
  refine TL_part 3 [] (mk 13 [(0, (ow 3)), (1, (dt (.str s_2))), (5, (ow 3)), (6, (dt (.str s_2))), (7, (di ((s_2.length : Nat) : Int)))] [(0, (.obj (tabP Tryd.prog))), (1, (.obj (errP 1))), (2, (.obj (errP 2))), (3, (.row 5 1 (b_1.map elB)))]) _ (by kernel_rfl) (z6 zt) rfl ?_
  obtain ⟨y4, e5, hk6, hz7⟩ := bdP_inv h
  refine TL_ct 40 [0, 1, 2, 3] 100004 _ _ [] (g_strconv_AppendInt_ret e5) rfl rfl (by kernel_rfl) (by kernel_rfl) (by kernel_rfl) (by kernel_rfl) (fun l bx' hR => ?_) (fun d bx' hR => ?_)
  obtain ⟨r_3, rfl, rfl, rfl⟩ := CoR_ret hR
  replace h := hk6 _ rfl
  refine TL_turn [] [1, 8] [] (mk 13 [(1, (dt (.str s_2))), (8, (ow 100004))] [(0, (.obj (tabP Tryd.prog))), (1, (.obj (errP 1))), (2, (.obj (errP 2))), (100004, (.row 5 1 (r_3.map elB)))]) (by kernel_rfl) ?_
  obtain ⟨c8, h⟩ := ck_inv h
  obtain ⟨c9, h⟩ := ck_inv h
  refine TL_part 5 [zn, (zd (.sl 1 ((r_3 ++ ([58] : List UInt8)).map elB))), zn, (zd (.sl 1 (((r_3 ++ ([58] : List UInt8)) ++ s_2).map elB)))] (mk 13 [(1, (dt (.str s_2))), (4, (ow 16)), (9, (ow 13)), (11, (dt (.str s_2))), (12, (ow 16))] [(16, (.row 5 1 (((r_3 ++ ([58] : List UInt8)) ++ s_2).map elB))), (13, (.row 5 1 (([58] : List UInt8).map elB))), (0, (.obj (tabP Tryd.prog))), (1, (.obj (errP 1))), (2, (.obj (errP 2)))]) _ (by kernel_rfl) (z1 (zc (show dfill (fun i => some (i * 1, 1)) (List.replicate (1 * 1) .junk) [(0, [(.dat (.int .u8 58))])] = some ((flat (([58] : List UInt8).map elB)).map .dat) from rfl) (z1 (zc (app_s elB elB_one r_3 ([58] : List UInt8) c8) (z3 (zc (app_s elB elB_one (r_3 ++ ([58] : List UInt8)) s_2 c9) (z2 zt))))))) rfl ?_
  refine TL_nilQ ?_
  refine T_turn [] [4] [13] (mk 13 [(4, (ow 16))] [(16, (.row 5 1 (((r_3 ++ ([58] : List UInt8)) ++ s_2).map elB))), (0, (.obj (tabP Tryd.prog))), (1, (.obj (errP 1))), (2, (.obj (errP 2)))]) (by kernel_rfl) ?_
  refine T_arr [.ren 16 4] [4] [16] [0, 1, 2, 4] (mk 13 [(4, (ow 4))] [(0, (.obj (tabP Tryd.prog))), (1, (.obj (errP 1))), (2, (.obj (errP 2))), (4, (.row 5 1 (((r_3 ++ ([58] : List UInt8)) ++ s_2).map elB)))]) (by kernel_rfl) ?_
  refine T_ret ?_
  obtain rfl := some_inv h
  exact ⟨[(ow 4)], by kernel_rfl, rfl⟩
  obtain ⟨rfl, rfl, hlk⟩ := CoR_pan hR
  replace h := hz7 rfl
  obtain rfl := some_inv h
  exact (show _ ∧ _ from ⟨rfl, ⟨_, rfl, lk3 ((after_lk (by kernel_rfl) rfl).trans (by rw [hlk 0 (by decide)]; kernel_rfl)) ((after_lk (by kernel_rfl) rfl).trans (by rw [hlk 1 (by decide)]; kernel_rfl)) ((after_lk (by kernel_rfl) rfl).trans (by rw [hlk 2 (by decide)]; kernel_rfl))⟩⟩)

theorem g_codec_newWriter_1_ret {b_1 : List UInt8} {v_2 : Val} {r : (List UInt8) ⊕ Unit} (h : g_codec_newWriter_1 b_1 v_2 = some r) : CT Tryd.prog 39 4 [(ow 3), (.agg (qVal v_2))] [(0, (.obj (tabP Tryd.prog))), (1, (.obj (errP 1))), (2, (.obj (errP 2))), (3, (.row 5 1 (b_1.map elB)))] (CoR 3 ghosts (fun x => ((ow 4), [(0, (.obj (tabP Tryd.prog))), (1, (.obj (errP 1))), (2, (.obj (errP 2))), (4, (.row 5 1 (x.map elB)))])) (.iface 29 (.int .i64 20)) r) := by
  refine CT.of_T Tryd.func39 (by kernel_rfl) rfl ?_
  refine T_turn [] [0, 1] [] (mk 13 [(0, (ow 3)), (1, (.agg (qVal v_2)))] [(0, (.obj (tabP Tryd.prog))), (1, (.obj (errP 1))), (2, (.obj (errP 2))), (3, (.row 5 1 (b_1.map elB)))]) (by kernel_rfl) ?_
  refine T_reg [] [0, 3] [] (mk 13 [(0, (ow 3)), (3, (rf 7 0))] [(7, (.var (qVal v_2))), (0, (.obj (tabP Tryd.prog))), (1, (.obj (errP 1))), (2, (.obj (errP 2))), (3, (.row 5 1 (b_1.map elB)))]) _ (by kernel_rfl) (z4 zt) ?_
  refine T_arr [] [0, 3] [] [0, 1, 2, 3, 7] (mk 13 [(0, (ow 3)), (3, (rf 7 0))] [(0, (.obj (tabP Tryd.prog))), (1, (.obj (errP 1))), (2, (.obj (errP 2))), (3, (.row 5 1 (b_1.map elB))), (7, (.var (qVal v_2)))]) (by kernel_rfl) ?_
  obtain ⟨c3, h⟩ := ck_inv h
  obtain ⟨y5, e6, hk7, hz8⟩ := bdP_inv h
  rcases y5 with r_4 | u
  replace h := hk7 _ rfl
  obtain ⟨c9, h⟩ := ck_inv h
  refine T_seq (T_stC [{}, {}, { h := zd (.sl 1 ((b_1 ++ ([105] : List UInt8)).map elB)) }, {}, {}, {}, {}, { h := zd (.sl 1 ((r_4 ++ ([101] : List UInt8)).map elB)) }, {}] _ [(0, 5, (ow 3)), (1, 6, (ow 10)), (2, 0, J), (2, 5, J), (2, 7, (ow 11)), (3, 8, (rf 7 1)), (4, 9, (di v_2.n)), (5, 7, J), (5, 10, (ow 100004)), (6, 11, (ow 15)), (7, 10, J), (7, 12, (ow 16)), (8, 4, (ow 16))] [(1, 10, some (.row 5 1 (([105] : List UInt8).map elB))), (2, 3, none), (2, 11, some (.row 5 1 ((b_1 ++ ([105] : List UInt8)).map elB))), (5, 11, none), (5, 100004, some (.row 5 1 (r_4.map elB))), (6, 15, some (.row 5 1 (([101] : List UInt8).map elB))), (7, 16, some (.row 5 1 ((r_4 ++ ([101] : List UInt8)).map elB))), (7, 100004, none)] [0, 1, 2, 3, 7, 10, 11, 15, 16, 100004] 9 [0, 0, 3, 0, 8, 31, 0, 127, 255] 230 [0, 2, 6, 38, 64, 66, 70, 102, 230] [5] none (by kernel_rfl) (by decide) (by kernel_rfl) (by kernel_rfl) (by kernel_rfl) (by kernel_rfl) (by kernel_rfl) (by kernel_rfl) (by kernel_rfl) (zs zt (zs (zc zt (show dfill (fun i => some (i * 1, 1)) (List.replicate (1 * 1) .junk) [(0, [(.dat (.int .u8 105))])] = some ((flat (([105] : List UInt8).map elB)).map .dat) from rfl)) (zs (zc zt (app_s elB elB_one b_1 ([105] : List UInt8) c3)) (zs zt (zs zt (zs zt (zs (zc zt (show dfill (fun i => some (i * 1, 1)) (List.replicate (1 * 1) .junk) [(0, [(.dat (.int .u8 101))])] = some ((flat (([101] : List UInt8).map elB)).map .dat) from rfl)) (zs (zc zt (app_s elB elB_one r_4 ([101] : List UInt8) c9)) (zs zt zS))))))))) ?_ (fun _ => ?_))
  intro c hc; simp only [List.mem_cons, List.not_mem_nil, or_false] at hc; rcases hc with rfl
  exact ⟨_, rfl, callU (hand := [0, 1, 2, 11]) (nb := 100004) [] (g_strconv_AppendInt_ret e6) [0, 1, 2, 3, 7, 10, 11, 15, 16, 100004] (by decide) rfl rfl 5 _ _ _ (by kernel_rfl) (by kernel_rfl) (by kernel_rfl) (by kernel_rfl) (by kernel_rfl) (by kernel_rfl)⟩
  refine T_turn [] [4] [7, 10, 15] (mk 13 [(4, (ow 16))] [(0, (.obj (tabP Tryd.prog))), (1, (.obj (errP 1))), (2, (.obj (errP 2))), (16, (.row 5 1 ((r_4 ++ ([101] : List UInt8)).map elB)))]) (by kernel_rfl) ?_
  refine T_arr [.ren 16 4] [4] [16] [0, 1, 2, 4] (mk 13 [(4, (ow 4))] [(0, (.obj (tabP Tryd.prog))), (1, (.obj (errP 1))), (2, (.obj (errP 2))), (4, (.row 5 1 ((r_4 ++ ([101] : List UInt8)).map elB)))]) (by kernel_rfl) ?_
  refine T_ret ?_
  obtain rfl := some_inv h
  exact ⟨[(ow 4)], by kernel_rfl, rfl⟩
  replace h := hz8 rfl
  obtain rfl := some_inv h
  refine T_seq (T_stC [{}, {}, { h := zd (.sl 1 ((b_1 ++ ([105] : List UInt8)).map elB)) }, {}, {}, {}, {}, {}, {}] _ [(0, 5, (ow 3)), (1, 6, (ow 10)), (2, 0, J), (2, 5, J), (2, 7, (ow 11)), (3, 8, (rf 7 1)), (4, 9, (di v_2.n)), (6, 11, (ow 15))] [(1, 10, some (.row 5 1 (([105] : List UInt8).map elB))), (2, 3, none), (2, 11, some (.row 5 1 ((b_1 ++ ([105] : List UInt8)).map elB))), (6, 15, some (.row 5 1 (([101] : List UInt8).map elB)))] [0, 1, 2, 3, 7, 10, 11, 15] 9 [0, 0, 3, 0, 8, 31, 0, 127, 255] 486 [0, 2, 6, 64, 66, 70] [5] (some 5) (by kernel_rfl) (by decide) (by kernel_rfl) (by kernel_rfl) (by kernel_rfl) (by kernel_rfl) (by kernel_rfl) (by kernel_rfl) (by kernel_rfl) (zs zt (zs (zc zt (show dfill (fun i => some (i * 1, 1)) (List.replicate (1 * 1) .junk) [(0, [(.dat (.int .u8 105))])] = some ((flat (([105] : List UInt8).map elB)).map .dat) from rfl)) (zs (zc zt (app_s elB elB_one b_1 ([105] : List UInt8) c3)) (zs zt (zs zt (zs zt (zs (zc zt (show dfill (fun i => some (i * 1, 1)) (List.replicate (1 * 1) .junk) [(0, [(.dat (.int .u8 101))])] = some ((flat (([101] : List UInt8).map elB)).map .dat) from rfl)) (zs zt (zs zt zS))))))))) ?_ (fun h => absurd h (by decide)))
  intro c hc; simp only [List.mem_cons, List.not_mem_nil, or_false] at hc; rcases hc with rfl
  refine ⟨_, rfl, callP (hand := [0, 1, 2, 11]) (nb := 100004) [] (g_strconv_AppendInt_ret e6) rfl rfl 5 _ _ _ (by kernel_rfl) (by kernel_rfl) (by kernel_rfl) (by kernel_rfl) (fun _ _ hlk => ?_)⟩
  exact (show _ ∧ _ from ⟨rfl, ⟨_, rfl, lk3 ((after_lk (by kernel_rfl) rfl).trans (by rw [hlk 0 (by decide)]; kernel_rfl)) ((after_lk (by kernel_rfl) rfl).trans (by rw [hlk 1 (by decide)]; kernel_rfl)) ((after_lk (by kernel_rfl) rfl).trans (by rw [hlk 2 (by decide)]; kernel_rfl))⟩⟩)

theorem g_codec_newWriter_2_ret {b_1 : List UInt8} {v_2 : Val} {r : (List UInt8) ⊕ Unit} (h : g_codec_newWriter_2 b_1 v_2 = some r) : CT Tryd.prog 41 4 [(ow 3), (.agg (qVal v_2))] [(0, (.obj (tabP Tryd.prog))), (1, (.obj (errP 1))), (2, (.obj (errP 2))), (3, (.row 5 1 (b_1.map elB)))] (CoR 3 ghosts (fun x => ((ow 4), [(0, (.obj (tabP Tryd.prog))), (1, (.obj (errP 1))), (2, (.obj (errP 2))), (4, (.row 5 1 (x.map elB)))])) (.iface 29 (.int .i64 20)) r) := by
  refine CT.of_T Tryd.func41 (by kernel_rfl) rfl ?_
  refine T_turn [] [0, 1] [] (mk 9 [(0, (ow 3)), (1, (.agg (qVal v_2)))] [(0, (.obj (tabP Tryd.prog))), (1, (.obj (errP 1))), (2, (.obj (errP 2))), (3, (.row 5 1 (b_1.map elB)))]) (by kernel_rfl) ?_
  refine T_reg [] [0, 3] [] (mk 9 [(0, (ow 3)), (3, (rf 7 0))] [(7, (.var (qVal v_2))), (0, (.obj (tabP Tryd.prog))), (1, (.obj (errP 1))), (2, (.obj (errP 2))), (3, (.row 5 1 (b_1.map elB)))]) _ (by kernel_rfl) (z4 zt) ?_
  refine T_seq (T_parts ?_)
  refine TL_part 3 [] (mk 9 [(0, (ow 3)), (3, (rf 7 0)), (5, (ow 3)), (6, (rf 7 2)), (7, (dt (.str v_2.s)))] [(7, (.var (qVal v_2))), (0, (.obj (tabP Tryd.prog))), (1, (.obj (errP 1))), (2, (.obj (errP 2))), (3, (.row 5 1 (b_1.map elB)))]) _ (by kernel_rfl) (z6 zt) rfl ?_
  obtain ⟨y4, e5, hk6, hz7⟩ := bdP_inv h
  refine TL_ct 42 [0, 1, 2, 3] 100004 _ _ [] (g_codec_text_ret e5) rfl rfl (by kernel_rfl) (by kernel_rfl) (by kernel_rfl) (by kernel_rfl) (fun l bx' hR => ?_) (fun d bx' hR => ?_)
  obtain ⟨r_3, rfl, rfl, rfl⟩ := CoR_ret hR
  replace h := hk6 _ rfl
  refine TL_turn [] [8] [7] (mk 9 [(8, (ow 100004))] [(0, (.obj (tabP Tryd.prog))), (1, (.obj (errP 1))), (2, (.obj (errP 2))), (100004, (.row 5 1 (r_3.map elB)))]) (by kernel_rfl) ?_
  refine TL_part 1 [] (mk 9 [(4, (ow 100004)), (8, (ow 100004))] [(0, (.obj (tabP Tryd.prog))), (1, (.obj (errP 1))), (2, (.obj (errP 2))), (100004, (.row 5 1 (r_3.map elB)))]) _ (by kernel_rfl) (z2 zt) rfl ?_
  refine TL_nilQ ?_
  refine T_turn [] [4] [] (mk 9 [(4, (ow 100004))] [(0, (.obj (tabP Tryd.prog))), (1, (.obj (errP 1))), (2, (.obj (errP 2))), (100004, (.row 5 1 (r_3.map elB)))]) (by kernel_rfl) ?_
  refine T_arr [.ren 100004 4] [4] [100004] [0, 1, 2, 4] (mk 9 [(4, (ow 4))] [(0, (.obj (tabP Tryd.prog))), (1, (.obj (errP 1))), (2, (.obj (errP 2))), (4, (.row 5 1 (r_3.map elB)))]) (by kernel_rfl) ?_
  refine T_ret ?_
  obtain rfl := some_inv h
  exact ⟨[(ow 4)], by kernel_rfl, rfl⟩
  obtain ⟨rfl, rfl, hlk⟩ := CoR_pan hR
  replace h := hz7 rfl
  obtain rfl := some_inv h
  exact (show _ ∧ _ from ⟨rfl, ⟨_, rfl, lk3 ((after_lk (by kernel_rfl) rfl).trans (by rw [hlk 0 (by decide)]; kernel_rfl)) ((after_lk (by kernel_rfl) rfl).trans (by rw [hlk 1 (by decide)]; kernel_rfl)) ((after_lk (by kernel_rfl) rfl).trans (by rw [hlk 2 (by decide)]; kernel_rfl))⟩⟩)

theorem g_codec_newWriter_3_s_ret {rc43 rc44 : (List UInt8) → (Val) → Option ((List UInt8) ⊕ Unit)} (hrc43 : ∀ {b_1 : List UInt8} {v_2 : Val} {r : (List UInt8) ⊕ Unit}, rc43 b_1 v_2 = some r → CT Tryd.prog 43 6 [(ow 5), (.agg (qVal v_2)), (rf 3 0)] [(0, (.obj (tabP Tryd.prog))), (1, (.obj (errP 1))), (2, (.obj (errP 2))), (3, (.var [(.ref 4 0)])), (4, (.var [(.dat (.con .nilFunc)), (.fn 39 []), (.fn 41 []), (.fn 43 [.inl 3]), (.fn 44 [.inl 3])])), (5, (.row 5 1 (b_1.map elB)))] (CoR 3 ghosts (fun x => ((ow 6), [(0, (.obj (tabP Tryd.prog))), (1, (.obj (errP 1))), (2, (.obj (errP 2))), (3, (.var [(.ref 4 0)])), (4, (.var [(.dat (.con .nilFunc)), (.fn 39 []), (.fn 41 []), (.fn 43 [.inl 3]), (.fn 44 [.inl 3])])), (6, (.row 5 1 (x.map elB)))])) (.iface 29 (.int .i64 20)) r)) (hrc44 : ∀ {b_1 : List UInt8} {v_2 : Val} {r : (List UInt8) ⊕ Unit}, rc44 b_1 v_2 = some r → CT Tryd.prog 44 6 [(ow 5), (.agg (qVal v_2)), (rf 3 0)] [(0, (.obj (tabP Tryd.prog))), (1, (.obj (errP 1))), (2, (.obj (errP 2))), (3, (.var [(.ref 4 0)])), (4, (.var [(.dat (.con .nilFunc)), (.fn 39 []), (.fn 41 []), (.fn 43 [.inl 3]), (.fn 44 [.inl 3])])), (5, (.row 5 1 (b_1.map elB)))] (CoR 3 ghosts (fun x => ((ow 6), [(0, (.obj (tabP Tryd.prog))), (1, (.obj (errP 1))), (2, (.obj (errP 2))), (3, (.var [(.ref 4 0)])), (4, (.var [(.dat (.con .nilFunc)), (.fn 39 []), (.fn 41 []), (.fn 43 [.inl 3]), (.fn 44 [.inl 3])])), (6, (.row 5 1 (x.map elB)))])) (.iface 29 (.int .i64 20)) r)) {b_1 : List UInt8} {v_2 : Val} {r : (List UInt8) ⊕ Unit} (h : g_codec_newWriter_3_s rc43 rc44 b_1 v_2 = some r) : CT Tryd.prog 43 6 [(ow 5), (.agg (qVal v_2)), (rf 3 0)] [(0, (.obj (tabP Tryd.prog))), (1, (.obj (errP 1))), (2, (.obj (errP 2))), (3, (.var [(.ref 4 0)])), (4, (.var [(.dat (.con .nilFunc)), (.fn 39 []), (.fn 41 []), (.fn 43 [.inl 3]), (.fn 44 [.inl 3])])), (5, (.row 5 1 (b_1.map elB)))] (CoR 3 ghosts (fun x => ((ow 6), [(0, (.obj (tabP Tryd.prog))), (1, (.obj (errP 1))), (2, (.obj (errP 2))), (3, (.var [(.ref 4 0)])), (4, (.var [(.dat (.con .nilFunc)), (.fn 39 []), (.fn 41 []), (.fn 43 [.inl 3]), (.fn 44 [.inl 3])])), (6, (.row 5 1 (x.map elB)))])) (.iface 29 (.int .i64 20)) r) := by
  refine CT.of_T Tryd.func43 (by kernel_rfl) rfl ?_
  refine T_turn [] [0, 1, 2] [] (mk 32 [(0, (ow 5)), (1, (.agg (qVal v_2))), (2, (rf 3 0))] [(0, (.obj (tabP Tryd.prog))), (1, (.obj (errP 1))), (2, (.obj (errP 2))), (3, (.var [(.ref 4 0)])), (4, (.var [(.dat (.con .nilFunc)), (.fn 39 []), (.fn 41 []), (.fn 43 [.inl 3]), (.fn 44 [.inl 3])])), (5, (.row 5 1 (b_1.map elB)))]) (by kernel_rfl) ?_
  refine T_reg [] [0, 2, 4] [] (mk 32 [(0, (ow 5)), (2, (rf 3 0)), (4, (rf 10 0))] [(10, (.var (qVal v_2))), (0, (.obj (tabP Tryd.prog))), (1, (.obj (errP 1))), (2, (.obj (errP 2))), (3, (.var [(.ref 4 0)])), (4, (.var [(.dat (.con .nilFunc)), (.fn 39 []), (.fn 41 []), (.fn 43 [.inl 3]), (.fn 44 [.inl 3])])), (5, (.row 5 1 (b_1.map elB)))]) _ (by kernel_rfl) (z4 zt) ?_
  obtain ⟨c3, h⟩ := ck_inv h
  refine T_reg [zn, zn, (zd (.sl 1 ((b_1 ++ ([108] : List UInt8)).map elB)))] [0, 2, 4] [15] (mk 32 [(0, (ow 16)), (2, (rf 3 0)), (4, (rf 10 0))] [(16, (.row 5 1 ((b_1 ++ ([108] : List UInt8)).map elB))), (10, (.var (qVal v_2))), (0, (.obj (tabP Tryd.prog))), (1, (.obj (errP 1))), (2, (.obj (errP 2))), (3, (.var [(.ref 4 0)])), (4, (.var [(.dat (.con .nilFunc)), (.fn 39 []), (.fn 41 []), (.fn 43 [.inl 3]), (.fn 44 [.inl 3])]))]) _ (by kernel_rfl) (z3 (zc (show dfill (fun i => some (i * 1, 1)) (List.replicate (1 * 1) .junk) [(0, [(.dat (.int .u8 108))])] = some ((flat (([108] : List UInt8).map elB)).map .dat) from rfl) (z1 (zc (app_s elB elB_one b_1 ([108] : List UInt8) c3) (z2 zt))))) ?_
  refine T_seqJ (α := List UInt8) (fun (l_4 : List UInt8) => (mk 32 [(0, (ow 16))] [(0, (.obj (tabP Tryd.prog))), (1, (.obj (errP 1))), (2, (.obj (errP 2))), (3, (.var [(.ref 4 0)])), (4, (.var [(.dat (.con .nilFunc)), (.fn 39 []), (.fn 41 []), (.fn 43 [.inl 3]), (.fn 44 [.inl 3])])), (16, (.row 5 1 (l_4.map elB)))])) (fun (l_4 : List UInt8) => g_codec_newWriter_3_s_j1 l_4 = some r) (fun l_4 h => ?_) ?_
  obtain ⟨c5, h⟩ := ck_inv h
  refine T_reg [zn, zn, (zd (.sl 1 ((l_4 ++ ([101] : List UInt8)).map elB)))] [5] [36] (mk 32 [(5, (ow 37))] [(37, (.row 5 1 ((l_4 ++ ([101] : List UInt8)).map elB))), (0, (.obj (tabP Tryd.prog))), (1, (.obj (errP 1))), (2, (.obj (errP 2))), (3, (.var [(.ref 4 0)])), (4, (.var [(.dat (.con .nilFunc)), (.fn 39 []), (.fn 41 []), (.fn 43 [.inl 3]), (.fn 44 [.inl 3])]))]) _ (by kernel_rfl) (z3 (zc (show dfill (fun i => some (i * 1, 1)) (List.replicate (1 * 1) .junk) [(0, [(.dat (.int .u8 101))])] = some ((flat (([101] : List UInt8).map elB)).map .dat) from rfl) (z1 (zc (app_s elB elB_one l_4 ([101] : List UInt8) c5) (z2 zt))))) ?_
  refine T_arr [.ren 37 6] [5] [37] [0, 1, 2, 3, 4, 6] (mk 32 [(5, (ow 6))] [(0, (.obj (tabP Tryd.prog))), (1, (.obj (errP 1))), (2, (.obj (errP 2))), (3, (.var [(.ref 4 0)])), (4, (.var [(.dat (.con .nilFunc)), (.fn 39 []), (.fn 41 []), (.fn 43 [.inl 3]), (.fn 44 [.inl 3])])), (6, (.row 5 1 ((l_4 ++ ([101] : List UInt8)).map elB)))]) (by kernel_rfl) ?_
  refine T_ret ?_
  obtain rfl := some_inv h
  exact ⟨[(ow 6)], by kernel_rfl, rfl⟩
  refine T_reg [zn, zn, (zd (I ((v_2.l.length : Nat) : Int)))] [0, 2, 12, 13, 14] [10] (mk 32 [(0, (ow 16)), (2, (rf 3 0)), (12, (dt (.sl 5 (v_2.l.map encVal)))), (13, (di ((v_2.l.length : Nat) : Int))), (14, (di 0))] [(16, (.row 5 1 ((b_1 ++ ([108] : List UInt8)).map elB))), (0, (.obj (tabP Tryd.prog))), (1, (.obj (errP 1))), (2, (.obj (errP 2))), (3, (.var [(.ref 4 0)])), (4, (.var [(.dat (.con .nilFunc)), (.fn 39 []), (.fn 41 []), (.fn 43 [.inl 3]), (.fn 44 [.inl 3])]))]) _ (by kernel_rfl) (z5 (zc (len_s encVal v_2.l) (z2 zt))) ?_
  refine T_block ?_
  refine T_arr [] [0, 2, 12, 13, 14] [] [0, 1, 2, 3, 4, 16] _ (by kernel_rfl) (T_loopO (σ := Nat × (List UInt8)) (fun ((v_6, l_7) : Nat × (List UInt8)) => (mk 32 [(0, (ow 16)), (2, (rf 3 0)), (12, (dt (.sl 5 (v_2.l.map encVal)))), (13, (di ((v_2.l.length : Nat) : Int))), (14, (di ((v_6 : Nat) : Int)))] [(0, (.obj (tabP Tryd.prog))), (1, (.obj (errP 1))), (2, (.obj (errP 2))), (3, (.var [(.ref 4 0)])), (4, (.var [(.dat (.con .nilFunc)), (.fn 39 []), (.fn 41 []), (.fn 43 [.inl 3]), (.fn 44 [.inl 3])])), (16, (.row 5 1 (l_7.map elB)))])) (g_codec_newWriter_3_s_l2 v_2 rc43 rc44) (0, (b_1 ++ ([108] : List UInt8))) h (fun v y1 hy1 h => ?_))
  obtain ⟨v_6, l_7⟩ := v
  refine T_reg [] [0, 2, 12, 13, 14, 15] [] (mk 32 [(0, (ow 16)), (2, (rf 3 0)), (12, (dt (.sl 5 (v_2.l.map encVal)))), (13, (di ((v_2.l.length : Nat) : Int))), (14, (di ((v_6 : Nat) : Int))), (15, (db (decide (((v_6 : Nat) : Int) < ((v_2.l.length : Nat) : Int)))))] [(0, (.obj (tabP Tryd.prog))), (1, (.obj (errP 1))), (2, (.obj (errP 2))), (3, (.var [(.ref 4 0)])), (4, (.var [(.dat (.con .nilFunc)), (.fn 39 []), (.fn 41 []), (.fn 43 [.inl 3]), (.fn 44 [.inl 3])])), (16, (.row 5 1 (l_7.map elB)))]) _ (by kernel_rfl) (z2 zt) ?_
  refine T_seq ?_
  refine T_cond (decide (((v_6 : Nat) : Int) < ((v_2.l.length : Nat) : Int))) (by kernel_rfl) (fun b10 => ?_) (fun b10 => ?_)
  replace h := ite_t b10 h
  refine T_skip ?_
  refine T_seqJ (α := List UInt8) (fun (l_11 : List UInt8) => (mk 32 [(0, (ow 100006)), (2, (rf 3 0)), (12, (dt (.sl 5 (v_2.l.map encVal)))), (13, (di ((v_2.l.length : Nat) : Int))), (14, (di ((v_6 : Nat) : Int)))] [(0, (.obj (tabP Tryd.prog))), (1, (.obj (errP 1))), (2, (.obj (errP 2))), (3, (.var [(.ref 4 0)])), (4, (.var [(.dat (.con .nilFunc)), (.fn 39 []), (.fn 41 []), (.fn 43 [.inl 3]), (.fn 44 [.inl 3])])), (100006, (.row 5 1 (l_11.map elB)))])) (fun (l_11 : List UInt8) => g_codec_newWriter_3_s_j3 v_6 v_2 l_11 = some y1) (fun l_11 h => ?_) ?_
  obtain ⟨c12, h⟩ := ckI_inv h
  exact T_regJ [(zd (I ((v_6 + 1 : Nat) : Int)))] [.ren 100006 16] [0, 2, 12, 13, 14] [] [0, 1, 2, 3, 4, 16] _ _ (by kernel_rfl) (z1 (zc c12 (z2 zt))) (fun s hs => Exists.intro (v_6 + 1, l_11) (And.intro h hs))
  refine T_block ?_
  obtain ⟨x_13, e14, e15, e16, h⟩ := gn_invE encVal ndcVal encVal_nd h
  refine T_reg [(zd (ndcVal x_13))] [0, 2, 7, 12, 13, 14] [] (mk 32 [(0, (ow 16)), (2, (rf 3 0)), (7, (rf 13 0)), (12, (dt (.sl 5 (v_2.l.map encVal)))), (13, (di ((v_2.l.length : Nat) : Int))), (14, (di ((v_6 : Nat) : Int)))] [(13, (.var (qVal x_13))), (0, (.obj (tabP Tryd.prog))), (1, (.obj (errP 1))), (2, (.obj (errP 2))), (3, (.var [(.ref 4 0)])), (4, (.var [(.dat (.con .nilFunc)), (.fn 39 []), (.fn 41 []), (.fn 43 [.inl 3]), (.fn 44 [.inl 3])])), (16, (.row 5 1 (l_7.map elB)))]) _ (by kernel_rfl) (z1 (zc e14 (z6 zt))) ?_
  rcases Bool.eq_false_or_eq_true (x_13.k == 0) with b17 | b17
  replace h := ite_t b17 h
  refine T_drawTL 9 (hl 5 [(4, (zd (I 0)))]) (mk 32 [(0, (ow 16)), (2, (rf 3 0)), (7, (rf 13 0)), (12, (dt (.sl 5 (v_2.l.map encVal)))), (13, (di ((v_2.l.length : Nat) : Int))), (14, (di ((v_6 : Nat) : Int))), (18, (rf 4 0)), (19, (rf 13 0)), (20, (di x_13.k)), (21, (rf 4 0)), (22, (rf 4 0)), (23, (rf 4 0)), (24, (dt (.con .nilFunc))), (25, (ow 16)), (26, (.agg (qVal x_13)))] [(13, (.var (qVal x_13))), (0, (.obj (tabP Tryd.prog))), (1, (.obj (errP 1))), (2, (.obj (errP 2))), (3, (.var [(.ref 4 0)])), (4, (.var [(.dat (.con .nilFunc)), (.fn 39 []), (.fn 41 []), (.fn 43 [.inl 3]), (.fn 44 [.inl 3])])), (16, (.row 5 1 (l_7.map elB)))]) _ (by kernel_rfl) (by kernel_rfl) (by kernel_rfl) (z8 (z1 (zc (eq_of_beq b17) (z8 zt)))) ?_
  exact absurd (ck_inv (p := False) h).1 id
  replace h := ite_f b17 h
  rcases Bool.eq_false_or_eq_true (x_13.k == 1) with b18 | b18
  replace h := ite_t b18 h
  refine T_drawTL 9 (hl 5 [(4, (zd (I 1)))]) (mk 32 [(0, (ow 16)), (2, (rf 3 0)), (7, (rf 13 0)), (12, (dt (.sl 5 (v_2.l.map encVal)))), (13, (di ((v_2.l.length : Nat) : Int))), (14, (di ((v_6 : Nat) : Int))), (18, (rf 4 0)), (19, (rf 13 0)), (20, (di x_13.k)), (21, (rf 4 0)), (22, (rf 4 1)), (23, (rf 4 1)), (24, (.one (.fn 39 []))), (25, (ow 16)), (26, (.agg (qVal x_13)))] [(13, (.var (qVal x_13))), (0, (.obj (tabP Tryd.prog))), (1, (.obj (errP 1))), (2, (.obj (errP 2))), (3, (.var [(.ref 4 0)])), (4, (.var [(.dat (.con .nilFunc)), (.fn 39 []), (.fn 41 []), (.fn 43 [.inl 3]), (.fn 44 [.inl 3])])), (16, (.row 5 1 (l_7.map elB)))]) _ (by kernel_rfl) (by kernel_rfl) (by kernel_rfl) (z8 (z1 (zc (eq_of_beq b18) (z8 zt)))) ?_
  obtain ⟨y20, e21, hk22, hz23⟩ := bdP_inv h
  refine TL_ct 39 [0, 1, 2, 16] 100006 _ _ [] (g_codec_newWriter_1_ret e21) rfl rfl (by kernel_rfl) (by kernel_rfl) (by kernel_rfl) (by kernel_rfl) (fun l bx' hR => ?_) (fun d bx' hR => ?_)
  obtain ⟨r_19, rfl, rfl, rfl⟩ := CoR_ret hR
  replace h := hk22 _ rfl
  refine TL_turn [] [2, 12, 13, 14, 27] [13] (mk 32 [(2, (rf 3 0)), (12, (dt (.sl 5 (v_2.l.map encVal)))), (13, (di ((v_2.l.length : Nat) : Int))), (14, (di ((v_6 : Nat) : Int))), (27, (ow 100006))] [(3, (.var [(.ref 4 0)])), (4, (.var [(.dat (.con .nilFunc)), (.fn 39 []), (.fn 41 []), (.fn 43 [.inl 3]), (.fn 44 [.inl 3])])), (0, (.obj (tabP Tryd.prog))), (1, (.obj (errP 1))), (2, (.obj (errP 2))), (100006, (.row 5 1 (r_19.map elB)))]) (by kernel_rfl) ?_
  refine TL_part 1 [] (mk 32 [(0, (ow 100006)), (2, (rf 3 0)), (12, (dt (.sl 5 (v_2.l.map encVal)))), (13, (di ((v_2.l.length : Nat) : Int))), (14, (di ((v_6 : Nat) : Int))), (27, (ow 100006))] [(3, (.var [(.ref 4 0)])), (4, (.var [(.dat (.con .nilFunc)), (.fn 39 []), (.fn 41 []), (.fn 43 [.inl 3]), (.fn 44 [.inl 3])])), (0, (.obj (tabP Tryd.prog))), (1, (.obj (errP 1))), (2, (.obj (errP 2))), (100006, (.row 5 1 (r_19.map elB)))]) _ (by kernel_rfl) (z2 zt) rfl ?_
  refine TL_nilQ ?_
  exact Exists.intro r_19 (And.intro h (arr [] [0, 2, 12, 13, 14] [] [0, 1, 2, 3, 4, 100006] (by kernel_rfl)))
  obtain ⟨rfl, rfl, hlk⟩ := CoR_pan hR
  replace h := hz23 rfl
  replace h := up_inv h hy1
  obtain rfl := some_inv h
  exact (show _ ∧ _ from ⟨rfl, ⟨_, rfl, lk3 ((after_lk (by kernel_rfl) rfl).trans (by rw [hlk 0 (by decide)]; kernel_rfl)) ((after_lk (by kernel_rfl) rfl).trans (by rw [hlk 1 (by decide)]; kernel_rfl)) ((after_lk (by kernel_rfl) rfl).trans (by rw [hlk 2 (by decide)]; kernel_rfl))⟩⟩)
  replace h := ite_f b18 h
  rcases Bool.eq_false_or_eq_true (x_13.k == 2) with b24 | b24
  replace h := ite_t b24 h
  refine T_drawTL 9 (hl 5 [(4, (zd (I 2)))]) (mk 32 [(0, (ow 16)), (2, (rf 3 0)), (7, (rf 13 0)), (12, (dt (.sl 5 (v_2.l.map encVal)))), (13, (di ((v_2.l.length : Nat) : Int))), (14, (di ((v_6 : Nat) : Int))), (18, (rf 4 0)), (19, (rf 13 0)), (20, (di x_13.k)), (21, (rf 4 0)), (22, (rf 4 2)), (23, (rf 4 2)), (24, (.one (.fn 41 []))), (25, (ow 16)), (26, (.agg (qVal x_13)))] [(13, (.var (qVal x_13))), (0, (.obj (tabP Tryd.prog))), (1, (.obj (errP 1))), (2, (.obj (errP 2))), (3, (.var [(.ref 4 0)])), (4, (.var [(.dat (.con .nilFunc)), (.fn 39 []), (.fn 41 []), (.fn 43 [.inl 3]), (.fn 44 [.inl 3])])), (16, (.row 5 1 (l_7.map elB)))]) _ (by kernel_rfl) (by kernel_rfl) (by kernel_rfl) (z8 (z1 (zc (eq_of_beq b24) (z8 zt)))) ?_
  obtain ⟨y26, e27, hk28, hz29⟩ := bdP_inv h
  refine TL_ct 41 [0, 1, 2, 16] 100006 _ _ [] (g_codec_newWriter_2_ret e27) rfl rfl (by kernel_rfl) (by kernel_rfl) (by kernel_rfl) (by kernel_rfl) (fun l bx' hR => ?_) (fun d bx' hR => ?_)
  obtain ⟨r_25, rfl, rfl, rfl⟩ := CoR_ret hR
  replace h := hk28 _ rfl
  refine TL_turn [] [2, 12, 13, 14, 27] [13] (mk 32 [(2, (rf 3 0)), (12, (dt (.sl 5 (v_2.l.map encVal)))), (13, (di ((v_2.l.length : Nat) : Int))), (14, (di ((v_6 : Nat) : Int))), (27, (ow 100006))] [(3, (.var [(.ref 4 0)])), (4, (.var [(.dat (.con .nilFunc)), (.fn 39 []), (.fn 41 []), (.fn 43 [.inl 3]), (.fn 44 [.inl 3])])), (0, (.obj (tabP Tryd.prog))), (1, (.obj (errP 1))), (2, (.obj (errP 2))), (100006, (.row 5 1 (r_25.map elB)))]) (by kernel_rfl) ?_
  refine TL_part 1 [] (mk 32 [(0, (ow 100006)), (2, (rf 3 0)), (12, (dt (.sl 5 (v_2.l.map encVal)))), (13, (di ((v_2.l.length : Nat) : Int))), (14, (di ((v_6 : Nat) : Int))), (27, (ow 100006))] [(3, (.var [(.ref 4 0)])), (4, (.var [(.dat (.con .nilFunc)), (.fn 39 []), (.fn 41 []), (.fn 43 [.inl 3]), (.fn 44 [.inl 3])])), (0, (.obj (tabP Tryd.prog))), (1, (.obj (errP 1))), (2, (.obj (errP 2))), (100006, (.row 5 1 (r_25.map elB)))]) _ (by kernel_rfl) (z2 zt) rfl ?_
  refine TL_nilQ ?_
  exact Exists.intro r_25 (And.intro h (arr [] [0, 2, 12, 13, 14] [] [0, 1, 2, 3, 4, 100006] (by kernel_rfl)))
  obtain ⟨rfl, rfl, hlk⟩ := CoR_pan hR
  replace h := hz29 rfl
  replace h := up_inv h hy1
  obtain rfl := some_inv h
  exact (show _ ∧ _ from ⟨rfl, ⟨_, rfl, lk3 ((after_lk (by kernel_rfl) rfl).trans (by rw [hlk 0 (by decide)]; kernel_rfl)) ((after_lk (by kernel_rfl) rfl).trans (by rw [hlk 1 (by decide)]; kernel_rfl)) ((after_lk (by kernel_rfl) rfl).trans (by rw [hlk 2 (by decide)]; kernel_rfl))⟩⟩)
  replace h := ite_f b24 h
  rcases Bool.eq_false_or_eq_true (x_13.k == 3) with b30 | b30
  replace h := ite_t b30 h
  refine T_drawTL 9 (hl 5 [(4, (zd (I 3)))]) (mk 32 [(0, (ow 16)), (2, (rf 3 0)), (7, (rf 13 0)), (12, (dt (.sl 5 (v_2.l.map encVal)))), (13, (di ((v_2.l.length : Nat) : Int))), (14, (di ((v_6 : Nat) : Int))), (18, (rf 4 0)), (19, (rf 13 0)), (20, (di x_13.k)), (21, (rf 4 0)), (22, (rf 4 3)), (23, (rf 4 3)), (24, (.one (.fn 43 [.inl 3]))), (25, (ow 16)), (26, (.agg (qVal x_13)))] [(13, (.var (qVal x_13))), (0, (.obj (tabP Tryd.prog))), (1, (.obj (errP 1))), (2, (.obj (errP 2))), (3, (.var [(.ref 4 0)])), (4, (.var [(.dat (.con .nilFunc)), (.fn 39 []), (.fn 41 []), (.fn 43 [.inl 3]), (.fn 44 [.inl 3])])), (16, (.row 5 1 (l_7.map elB)))]) _ (by kernel_rfl) (by kernel_rfl) (by kernel_rfl) (z8 (z1 (zc (eq_of_beq b30) (z8 zt)))) ?_
  obtain ⟨y32, e33, hk34, hz35⟩ := bdP_inv h
  refine TL_ct 43 [0, 1, 2, 3, 4, 16] 100006 _ _ [.inl 3] (hrc43 e33) rfl rfl (by kernel_rfl) (by kernel_rfl) (by kernel_rfl) (by kernel_rfl) (fun l bx' hR => ?_) (fun d bx' hR => ?_)
  obtain ⟨r_31, rfl, rfl, rfl⟩ := CoR_ret hR
  replace h := hk34 _ rfl
  refine TL_turn [] [2, 12, 13, 14, 27] [13] (mk 32 [(2, (rf 3 0)), (12, (dt (.sl 5 (v_2.l.map encVal)))), (13, (di ((v_2.l.length : Nat) : Int))), (14, (di ((v_6 : Nat) : Int))), (27, (ow 100006))] [(0, (.obj (tabP Tryd.prog))), (1, (.obj (errP 1))), (2, (.obj (errP 2))), (3, (.var [(.ref 4 0)])), (4, (.var [(.dat (.con .nilFunc)), (.fn 39 []), (.fn 41 []), (.fn 43 [.inl 3]), (.fn 44 [.inl 3])])), (100006, (.row 5 1 (r_31.map elB)))]) (by kernel_rfl) ?_
  refine TL_part 1 [] (mk 32 [(0, (ow 100006)), (2, (rf 3 0)), (12, (dt (.sl 5 (v_2.l.map encVal)))), (13, (di ((v_2.l.length : Nat) : Int))), (14, (di ((v_6 : Nat) : Int))), (27, (ow 100006))] [(0, (.obj (tabP Tryd.prog))), (1, (.obj (errP 1))), (2, (.obj (errP 2))), (3, (.var [(.ref 4 0)])), (4, (.var [(.dat (.con .nilFunc)), (.fn 39 []), (.fn 41 []), (.fn 43 [.inl 3]), (.fn 44 [.inl 3])])), (100006, (.row 5 1 (r_31.map elB)))]) _ (by kernel_rfl) (z2 zt) rfl ?_
  refine TL_nilQ ?_
  exact Exists.intro r_31 (And.intro h (arr [] [0, 2, 12, 13, 14] [] [0, 1, 2, 3, 4, 100006] (by kernel_rfl)))
  obtain ⟨rfl, rfl, hlk⟩ := CoR_pan hR
  replace h := hz35 rfl
  replace h := up_inv h hy1
  obtain rfl := some_inv h
  exact (show _ ∧ _ from ⟨rfl, ⟨_, rfl, lk3 ((after_lk (by kernel_rfl) rfl).trans (by rw [hlk 0 (by decide)]; kernel_rfl)) ((after_lk (by kernel_rfl) rfl).trans (by rw [hlk 1 (by decide)]; kernel_rfl)) ((after_lk (by kernel_rfl) rfl).trans (by rw [hlk 2 (by decide)]; kernel_rfl))⟩⟩)
  replace h := ite_f b30 h
  obtain ⟨c36, h⟩ := ck_inv h
  refine T_drawTL 9 (hl 5 [(4, (zd (I 4)))]) (mk 32 [(0, (ow 16)), (2, (rf 3 0)), (7, (rf 13 0)), (12, (dt (.sl 5 (v_2.l.map encVal)))), (13, (di ((v_2.l.length : Nat) : Int))), (14, (di ((v_6 : Nat) : Int))), (18, (rf 4 0)), (19, (rf 13 0)), (20, (di x_13.k)), (21, (rf 4 0)), (22, (rf 4 4)), (23, (rf 4 4)), (24, (.one (.fn 44 [.inl 3]))), (25, (ow 16)), (26, (.agg (qVal x_13)))] [(13, (.var (qVal x_13))), (0, (.obj (tabP Tryd.prog))), (1, (.obj (errP 1))), (2, (.obj (errP 2))), (3, (.var [(.ref 4 0)])), (4, (.var [(.dat (.con .nilFunc)), (.fn 39 []), (.fn 41 []), (.fn 43 [.inl 3]), (.fn 44 [.inl 3])])), (16, (.row 5 1 (l_7.map elB)))]) _ (by kernel_rfl) (by kernel_rfl) (by kernel_rfl) (z8 (z1 (zc c36 (z8 zt)))) ?_
  obtain ⟨y38, e39, hk40, hz41⟩ := bdP_inv h
  refine TL_ct 44 [0, 1, 2, 3, 4, 16] 100006 _ _ [.inl 3] (hrc44 e39) rfl rfl (by kernel_rfl) (by kernel_rfl) (by kernel_rfl) (by kernel_rfl) (fun l bx' hR => ?_) (fun d bx' hR => ?_)
  obtain ⟨r_37, rfl, rfl, rfl⟩ := CoR_ret hR
  replace h := hk40 _ rfl
  refine TL_turn [] [2, 12, 13, 14, 27] [13] (mk 32 [(2, (rf 3 0)), (12, (dt (.sl 5 (v_2.l.map encVal)))), (13, (di ((v_2.l.length : Nat) : Int))), (14, (di ((v_6 : Nat) : Int))), (27, (ow 100006))] [(0, (.obj (tabP Tryd.prog))), (1, (.obj (errP 1))), (2, (.obj (errP 2))), (3, (.var [(.ref 4 0)])), (4, (.var [(.dat (.con .nilFunc)), (.fn 39 []), (.fn 41 []), (.fn 43 [.inl 3]), (.fn 44 [.inl 3])])), (100006, (.row 5 1 (r_37.map elB)))]) (by kernel_rfl) ?_
  refine TL_part 1 [] (mk 32 [(0, (ow 100006)), (2, (rf 3 0)), (12, (dt (.sl 5 (v_2.l.map encVal)))), (13, (di ((v_2.l.length : Nat) : Int))), (14, (di ((v_6 : Nat) : Int))), (27, (ow 100006))] [(0, (.obj (tabP Tryd.prog))), (1, (.obj (errP 1))), (2, (.obj (errP 2))), (3, (.var [(.ref 4 0)])), (4, (.var [(.dat (.con .nilFunc)), (.fn 39 []), (.fn 41 []), (.fn 43 [.inl 3]), (.fn 44 [.inl 3])])), (100006, (.row 5 1 (r_37.map elB)))]) _ (by kernel_rfl) (z2 zt) rfl ?_
  refine TL_nilQ ?_
  exact Exists.intro r_37 (And.intro h (arr [] [0, 2, 12, 13, 14] [] [0, 1, 2, 3, 4, 100006] (by kernel_rfl)))
  obtain ⟨rfl, rfl, hlk⟩ := CoR_pan hR
  replace h := hz41 rfl
  replace h := up_inv h hy1
  obtain rfl := some_inv h
  exact (show _ ∧ _ from ⟨rfl, ⟨_, rfl, lk3 ((after_lk (by kernel_rfl) rfl).trans (by rw [hlk 0 (by decide)]; kernel_rfl)) ((after_lk (by kernel_rfl) rfl).trans (by rw [hlk 1 (by decide)]; kernel_rfl)) ((after_lk (by kernel_rfl) rfl).trans (by rw [hlk 2 (by decide)]; kernel_rfl))⟩⟩)
  replace h := ite_f b10 h
  refine T_exit ?_
  replace h := up_inv h hy1
  exact Exists.intro l_7 (And.intro h (arr [] [0] [] [0, 1, 2, 3, 4, 16] (by kernel_rfl)))

end Go.Proofs.YtimalbkjflfdoaaDoor

/-
  Go functions as partial functions, printed by auto.py: what each returns when its partial function has a value. Conditions: those of each theorem.
-/
namespace Go.Proofs.YtimalbkjflfdoaaDoor
open Go.DL
set_option maxRecDepth 100000
set_option maxHeartbeats 4000000
set_option linter.unusedVariables false
set_option linter.unusedSimpArgs false
theorem g_codec_newWriter_4_s_ret {rc43 rc44 : (List UInt8) → (Val) → Option ((List UInt8) ⊕ Unit)} (hrc43 : ∀ {b_1 : List UInt8} {v_2 : Val} {r : (List UInt8) ⊕ Unit}, rc43 b_1 v_2 = some r → CT Tryd.prog 43 6 [(ow 5), (.agg (qVal v_2)), (rf 3 0)] [(0, (.obj (tabP Tryd.prog))), (1, (.obj (errP 1))), (2, (.obj (errP 2))), (3, (.var [(.ref 4 0)])), (4, (.var [(.dat (.con .nilFunc)), (.fn 39 []), (.fn 41 []), (.fn 43 [.inl 3]), (.fn 44 [.inl 3])])), (5, (.row 5 1 (b_1.map elB)))] (CoR 3 ghosts (fun x => ((ow 6), [(0, (.obj (tabP Tryd.prog))), (1, (.obj (errP 1))), (2, (.obj (errP 2))), (3, (.var [(.ref 4 0)])), (4, (.var [(.dat (.con .nilFunc)), (.fn 39 []), (.fn 41 []), (.fn 43 [.inl 3]), (.fn 44 [.inl 3])])), (6, (.row 5 1 (x.map elB)))])) (.iface 29 (.int .i64 20)) r)) (hrc44 : ∀ {b_1 : List UInt8} {v_2 : Val} {r : (List UInt8) ⊕ Unit}, rc44 b_1 v_2 = some r → CT Tryd.prog 44 6 [(ow 5), (.agg (qVal v_2)), (rf 3 0)] [(0, (.obj (tabP Tryd.prog))), (1, (.obj (errP 1))), (2, (.obj (errP 2))), (3, (.var [(.ref 4 0)])), (4, (.var [(.dat (.con .nilFunc)), (.fn 39 []), (.fn 41 []), (.fn 43 [.inl 3]), (.fn 44 [.inl 3])])), (5, (.row 5 1 (b_1.map elB)))] (CoR 3 ghosts (fun x => ((ow 6), [(0, (.obj (tabP Tryd.prog))), (1, (.obj (errP 1))), (2, (.obj (errP 2))), (3, (.var [(.ref 4 0)])), (4, (.var [(.dat (.con .nilFunc)), (.fn 39 []), (.fn 41 []), (.fn 43 [.inl 3]), (.fn 44 [.inl 3])])), (6, (.row 5 1 (x.map elB)))])) (.iface 29 (.int .i64 20)) r)) {b_1 : List UInt8} {v_2 : Val} {r : (List UInt8) ⊕ Unit} (h : g_codec_newWriter_4_s rc43 rc44 b_1 v_2 = some r) : CT Tryd.prog 44 6 [(ow 5), (.agg (qVal v_2)), (rf 3 0)] [(0, (.obj (tabP Tryd.prog))), (1, (.obj (errP 1))), (2, (.obj (errP 2))), (3, (.var [(.ref 4 0)])), (4, (.var [(.dat (.con .nilFunc)), (.fn 39 []), (.fn 41 []), (.fn 43 [.inl 3]), (.fn 44 [.inl 3])])), (5, (.row 5 1 (b_1.map elB)))] (CoR 3 ghosts (fun x => ((ow 6), [(0, (.obj (tabP Tryd.prog))), (1, (.obj (errP 1))), (2, (.obj (errP 2))), (3, (.var [(.ref 4 0)])), (4, (.var [(.dat (.con .nilFunc)), (.fn 39 []), (.fn 41 []), (.fn 43 [.inl 3]), (.fn 44 [.inl 3])])), (6, (.row 5 1 (x.map elB)))])) (.iface 29 (.int .i64 20)) r) := by
  refine CT.of_T Tryd.func44 (by kernel_rfl) rfl ?_
  refine T_turn [] [0, 1, 2] [] (mk 39 [(0, (ow 5)), (1, (.agg (qVal v_2))), (2, (rf 3 0))] [(0, (.obj (tabP Tryd.prog))), (1, (.obj (errP 1))), (2, (.obj (errP 2))), (3, (.var [(.ref 4 0)])), (4, (.var [(.dat (.con .nilFunc)), (.fn 39 []), (.fn 41 []), (.fn 43 [.inl 3]), (.fn 44 [.inl 3])])), (5, (.row 5 1 (b_1.map elB)))]) (by kernel_rfl) ?_
  refine T_reg [] [0, 2, 4] [] (mk 39 [(0, (ow 5)), (2, (rf 3 0)), (4, (rf 10 0))] [(10, (.var (qVal v_2))), (0, (.obj (tabP Tryd.prog))), (1, (.obj (errP 1))), (2, (.obj (errP 2))), (3, (.var [(.ref 4 0)])), (4, (.var [(.dat (.con .nilFunc)), (.fn 39 []), (.fn 41 []), (.fn 43 [.inl 3]), (.fn 44 [.inl 3])])), (5, (.row 5 1 (b_1.map elB)))]) _ (by kernel_rfl) (z4 zt) ?_
  obtain ⟨c3, h⟩ := ck_inv h
  refine T_reg [zn, zn, (zd (.sl 1 ((b_1 ++ ([100] : List UInt8)).map elB)))] [0, 2, 4] [15] (mk 39 [(0, (ow 16)), (2, (rf 3 0)), (4, (rf 10 0))] [(16, (.row 5 1 ((b_1 ++ ([100] : List UInt8)).map elB))), (10, (.var (qVal v_2))), (0, (.obj (tabP Tryd.prog))), (1, (.obj (errP 1))), (2, (.obj (errP 2))), (3, (.var [(.ref 4 0)])), (4, (.var [(.dat (.con .nilFunc)), (.fn 39 []), (.fn 41 []), (.fn 43 [.inl 3]), (.fn 44 [.inl 3])]))]) _ (by kernel_rfl) (z3 (zc (show dfill (fun i => some (i * 1, 1)) (List.replicate (1 * 1) .junk) [(0, [(.dat (.int .u8 100))])] = some ((flat (([100] : List UInt8).map elB)).map .dat) from rfl) (z1 (zc (app_s elB elB_one b_1 ([100] : List UInt8) c3) (z2 zt))))) ?_
  refine T_seqJ (α := List UInt8) (fun (l_4 : List UInt8) => (mk 39 [(0, (ow 16))] [(0, (.obj (tabP Tryd.prog))), (1, (.obj (errP 1))), (2, (.obj (errP 2))), (3, (.var [(.ref 4 0)])), (4, (.var [(.dat (.con .nilFunc)), (.fn 39 []), (.fn 41 []), (.fn 43 [.inl 3]), (.fn 44 [.inl 3])])), (16, (.row 5 1 (l_4.map elB)))])) (fun (l_4 : List UInt8) => g_codec_newWriter_4_s_j1 l_4 = some r) (fun l_4 h => ?_) ?_
  obtain ⟨c5, h⟩ := ck_inv h
  refine T_reg [zn, zn, (zd (.sl 1 ((l_4 ++ ([101] : List UInt8)).map elB)))] [5] [43] (mk 39 [(5, (ow 44))] [(44, (.row 5 1 ((l_4 ++ ([101] : List UInt8)).map elB))), (0, (.obj (tabP Tryd.prog))), (1, (.obj (errP 1))), (2, (.obj (errP 2))), (3, (.var [(.ref 4 0)])), (4, (.var [(.dat (.con .nilFunc)), (.fn 39 []), (.fn 41 []), (.fn 43 [.inl 3]), (.fn 44 [.inl 3])]))]) _ (by kernel_rfl) (z3 (zc (show dfill (fun i => some (i * 1, 1)) (List.replicate (1 * 1) .junk) [(0, [(.dat (.int .u8 101))])] = some ((flat (([101] : List UInt8).map elB)).map .dat) from rfl) (z1 (zc (app_s elB elB_one l_4 ([101] : List UInt8) c5) (z2 zt))))) ?_
  refine T_arr [.ren 44 6] [5] [44] [0, 1, 2, 3, 4, 6] (mk 39 [(5, (ow 6))] [(0, (.obj (tabP Tryd.prog))), (1, (.obj (errP 1))), (2, (.obj (errP 2))), (3, (.var [(.ref 4 0)])), (4, (.var [(.dat (.con .nilFunc)), (.fn 39 []), (.fn 41 []), (.fn 43 [.inl 3]), (.fn 44 [.inl 3])])), (6, (.row 5 1 ((l_4 ++ ([101] : List UInt8)).map elB)))]) (by kernel_rfl) ?_
  refine T_ret ?_
  obtain rfl := some_inv h
  exact ⟨[(ow 6)], by kernel_rfl, rfl⟩
  refine T_reg [zn, zn, (zd (I ((v_2.l.length : Nat) : Int)))] [0, 2, 4, 12, 13, 14] [] (mk 39 [(0, (ow 16)), (2, (rf 3 0)), (4, (rf 10 0)), (12, (dt (.sl 5 (v_2.l.map encVal)))), (13, (di ((v_2.l.length : Nat) : Int))), (14, (di 0))] [(16, (.row 5 1 ((b_1 ++ ([100] : List UInt8)).map elB))), (10, (.var (qVal v_2))), (0, (.obj (tabP Tryd.prog))), (1, (.obj (errP 1))), (2, (.obj (errP 2))), (3, (.var [(.ref 4 0)])), (4, (.var [(.dat (.con .nilFunc)), (.fn 39 []), (.fn 41 []), (.fn 43 [.inl 3]), (.fn 44 [.inl 3])]))]) _ (by kernel_rfl) (z5 (zc (len_s encVal v_2.l) (z2 zt))) ?_
  refine T_block ?_
  refine T_arr [] [0, 2, 4, 12, 13, 14] [] [0, 1, 2, 3, 4, 10, 16] _ (by kernel_rfl) (T_loopO (σ := Nat × (List UInt8)) (fun ((v_6, l_7) : Nat × (List UInt8)) => (mk 39 [(0, (ow 16)), (2, (rf 3 0)), (4, (rf 10 0)), (12, (dt (.sl 5 (v_2.l.map encVal)))), (13, (di ((v_2.l.length : Nat) : Int))), (14, (di ((v_6 : Nat) : Int)))] [(0, (.obj (tabP Tryd.prog))), (1, (.obj (errP 1))), (2, (.obj (errP 2))), (3, (.var [(.ref 4 0)])), (4, (.var [(.dat (.con .nilFunc)), (.fn 39 []), (.fn 41 []), (.fn 43 [.inl 3]), (.fn 44 [.inl 3])])), (10, (.var (qVal v_2))), (16, (.row 5 1 (l_7.map elB)))])) (g_codec_newWriter_4_s_l2 v_2 rc43 rc44) (0, (b_1 ++ ([100] : List UInt8))) h (fun v y1 hy1 h => ?_))
  obtain ⟨v_6, l_7⟩ := v
  refine T_reg [] [0, 2, 4, 12, 13, 14, 15] [] (mk 39 [(0, (ow 16)), (2, (rf 3 0)), (4, (rf 10 0)), (12, (dt (.sl 5 (v_2.l.map encVal)))), (13, (di ((v_2.l.length : Nat) : Int))), (14, (di ((v_6 : Nat) : Int))), (15, (db (decide (((v_6 : Nat) : Int) < ((v_2.l.length : Nat) : Int)))))] [(0, (.obj (tabP Tryd.prog))), (1, (.obj (errP 1))), (2, (.obj (errP 2))), (3, (.var [(.ref 4 0)])), (4, (.var [(.dat (.con .nilFunc)), (.fn 39 []), (.fn 41 []), (.fn 43 [.inl 3]), (.fn 44 [.inl 3])])), (10, (.var (qVal v_2))), (16, (.row 5 1 (l_7.map elB)))]) _ (by kernel_rfl) (z2 zt) ?_
  refine T_seq ?_
  refine T_cond (decide (((v_6 : Nat) : Int) < ((v_2.l.length : Nat) : Int))) (by kernel_rfl) (fun b10 => ?_) (fun b10 => ?_)
  replace h := ite_t b10 h
  refine T_skip ?_
  refine T_seqJ (α := List UInt8) (fun (l_11 : List UInt8) => (mk 39 [(0, (ow 100007)), (2, (rf 3 0)), (4, (rf 10 0)), (12, (dt (.sl 5 (v_2.l.map encVal)))), (13, (di ((v_2.l.length : Nat) : Int))), (14, (di ((v_6 : Nat) : Int)))] [(0, (.obj (tabP Tryd.prog))), (1, (.obj (errP 1))), (2, (.obj (errP 2))), (3, (.var [(.ref 4 0)])), (4, (.var [(.dat (.con .nilFunc)), (.fn 39 []), (.fn 41 []), (.fn 43 [.inl 3]), (.fn 44 [.inl 3])])), (10, (.var (qVal v_2))), (100007, (.row 5 1 (l_11.map elB)))])) (fun (l_11 : List UInt8) => g_codec_newWriter_4_s_j3 v_6 v_2 l_11 = some y1) (fun l_11 h => ?_) ?_
  obtain ⟨c12, h⟩ := ckI_inv h
  exact T_regJ [(zd (I ((v_6 + 1 : Nat) : Int)))] [.ren 100007 16] [0, 2, 4, 12, 13, 14] [] [0, 1, 2, 3, 4, 10, 16] _ _ (by kernel_rfl) (z1 (zc c12 (z2 zt))) (fun s hs => Exists.intro (v_6 + 1, l_11) (And.intro h hs))
  refine T_block ?_
  obtain ⟨x_13, e14, e15, e16, h⟩ := gn_invE encVal ndcVal encVal_nd h
  refine T_reg [zn, (zd (ndcVal x_13))] [0, 2, 4, 6, 7, 12, 13, 14] [] (mk 39 [(0, (ow 16)), (2, (rf 3 0)), (4, (rf 10 0)), (6, (di ((v_6 : Nat) : Int))), (7, (rf 13 0)), (12, (dt (.sl 5 (v_2.l.map encVal)))), (13, (di ((v_2.l.length : Nat) : Int))), (14, (di ((v_6 : Nat) : Int)))] [(13, (.var (qVal x_13))), (0, (.obj (tabP Tryd.prog))), (1, (.obj (errP 1))), (2, (.obj (errP 2))), (3, (.var [(.ref 4 0)])), (4, (.var [(.dat (.con .nilFunc)), (.fn 39 []), (.fn 41 []), (.fn 43 [.inl 3]), (.fn 44 [.inl 3])])), (10, (.var (qVal v_2))), (16, (.row 5 1 (l_7.map elB)))]) _ (by kernel_rfl) (z3 (zc e14 (z8 zt))) ?_
  refine T_arr [] [0, 2, 4, 6, 7, 12, 13, 14] [] [0, 1, 2, 3, 4, 10, 13, 16] (mk 39 [(0, (ow 16)), (2, (rf 3 0)), (4, (rf 10 0)), (6, (di ((v_6 : Nat) : Int))), (7, (rf 13 0)), (12, (dt (.sl 5 (v_2.l.map encVal)))), (13, (di ((v_2.l.length : Nat) : Int))), (14, (di ((v_6 : Nat) : Int)))] [(0, (.obj (tabP Tryd.prog))), (1, (.obj (errP 1))), (2, (.obj (errP 2))), (3, (.var [(.ref 4 0)])), (4, (.var [(.dat (.con .nilFunc)), (.fn 39 []), (.fn 41 []), (.fn 43 [.inl 3]), (.fn 44 [.inl 3])])), (10, (.var (qVal v_2))), (13, (.var (qVal x_13))), (16, (.row 5 1 (l_7.map elB)))]) (by kernel_rfl) ?_
  rcases Bool.eq_false_or_eq_true (x_13.k == 0) with b17 | b17
  replace h := ite_t b17 h
  obtain ⟨x_18, e19, e20, e21, h⟩ := gn_inv elStr h
  obtain ⟨y23, e24, hk25, hz26⟩ := bdP_inv h
  rcases y23 with r_22 | u
  replace h := hk25 _ rfl
  exact absurd (ck_inv (p := False) h).1 id
  replace h := hz26 rfl
  replace h := up_inv h hy1
  obtain rfl := some_inv h
  refine T_stC [{}, {}, {}, {}, { h := zd (I 0) }, {}, {}, {}, {}, {}, {}, { h := zd (.str x_18) }, {}, {}, {}, {}, {}] _ [(0, 19, (rf 4 0)), (1, 20, (rf 13 0)), (2, 21, (di x_13.k)), (3, 22, (rf 4 0)), (4, 23, (rf 4 0)), (5, 24, (rf 4 0)), (6, 25, (dt (.con .nilFunc))), (7, 26, (ow 16)), (8, 27, (rf 10 4)), (9, 28, (dt (.sl 1 (v_2.ks.map elStr)))), (10, 29, (di ((v_6 : Nat) : Int))), (11, 30, (dt (.ptr [(.str x_18)]))), (12, 31, (dt (.str x_18))), (14, 33, (.agg (qVal x_13)))] [] [0, 1, 2, 3, 4, 10, 13, 16] 17 [0, 0, 2, 1, 15, 31, 63, 0, 0, 256, 0, 1792, 3840, 8064, 0, 32767, 65535] 106496 [0] [13] (some 13) (by kernel_rfl) (by decide) (by kernel_rfl) (by kernel_rfl) (by kernel_rfl) (by kernel_rfl) (by kernel_rfl) (by kernel_rfl) (by kernel_rfl) (zs zt (zs zt (zs zt (zs zt (zs (eq_of_beq b17) (zs zt (zs zt (zs zt (zs zt (zs zt (zs zt (zs e19 (zs zt (zs zt (zs zt (zs zt (zs zt zS))))))))))))))))) ?_ (fun h => absurd h (by decide))
  intro c hc; simp only [List.mem_cons, List.not_mem_nil, or_false] at hc; rcases hc with rfl
  refine ⟨_, rfl, callP (hand := [0, 1, 2, 16]) (nb := 100006) [] (g_codec_text_ret e24) rfl rfl 13 _ _ _ (by kernel_rfl) (by kernel_rfl) (by kernel_rfl) (by kernel_rfl) (fun _ _ hlk => ?_)⟩
  exact (show _ ∧ _ from ⟨rfl, ⟨_, rfl, lk3 ((after_lk (by kernel_rfl) rfl).trans (by rw [hlk 0 (by decide)]; kernel_rfl)) ((after_lk (by kernel_rfl) rfl).trans (by rw [hlk 1 (by decide)]; kernel_rfl)) ((after_lk (by kernel_rfl) rfl).trans (by rw [hlk 2 (by decide)]; kernel_rfl))⟩⟩)
  replace h := ite_f b17 h
  rcases Bool.eq_false_or_eq_true (x_13.k == 1) with b27 | b27
  replace h := ite_t b27 h
  obtain ⟨x_28, e29, e30, e31, h⟩ := gn_inv elStr h
  obtain ⟨y33, e34, hk35, hz36⟩ := bdP_inv h
  rcases y33 with r_32 | u
  replace h := hk35 _ rfl
  obtain ⟨y38, e39, hk40, hz41⟩ := bdP_inv h
  rcases y38 with r_37 | u
  replace h := hk40 _ rfl
  refine T_stC [{}, {}, {}, {}, { h := zd (I 1) }, {}, {}, {}, {}, {}, {}, { h := zd (.str x_28) }, {}, {}, {}, {}, {}] _ [(0, 19, (rf 4 0)), (1, 20, (rf 13 0)), (2, 21, (di x_13.k)), (3, 22, (rf 4 0)), (4, 23, (rf 4 1)), (5, 24, (rf 4 1)), (6, 25, (.one (.fn 39 []))), (7, 26, (ow 16)), (8, 27, (rf 10 4)), (9, 28, (dt (.sl 1 (v_2.ks.map elStr)))), (10, 29, (di ((v_6 : Nat) : Int))), (11, 30, (dt (.ptr [(.str x_28)]))), (12, 31, (dt (.str x_28))), (13, 0, J), (13, 26, J), (13, 32, (ow 100006)), (14, 33, (.agg (qVal x_13))), (15, 32, J), (15, 34, (ow 100007)), (16, 0, (ow 100007))] [(13, 16, none), (13, 100006, some (.row 5 1 (r_32.map elB))), (15, 100006, none), (15, 100007, some (.row 5 1 (r_37.map elB)))] [0, 1, 2, 3, 4, 10, 13, 16, 100006, 100007] 17 [0, 0, 2, 1, 15, 31, 63, 0, 0, 256, 0, 1792, 3840, 8064, 0, 32767, 65535] 106496 [0, 8192, 40960, 106496] [13, 15] none (by kernel_rfl) (by decide) (by kernel_rfl) (by kernel_rfl) (by kernel_rfl) (by kernel_rfl) (by kernel_rfl) (by kernel_rfl) (by kernel_rfl) (zs zt (zs zt (zs zt (zs zt (zs (eq_of_beq b27) (zs zt (zs zt (zs zt (zs zt (zs zt (zs zt (zs e29 (zs zt (zs zt (zs zt (zs zt (zs (zc zt zt) zS))))))))))))))))) ?_ (fun _ => ?_)
  intro c hc; simp only [List.mem_cons, List.not_mem_nil, or_false] at hc; rcases hc with rfl | rfl
  exact ⟨_, rfl, callU (hand := [0, 1, 2, 16]) (nb := 100006) [] (g_codec_text_ret e34) [0, 1, 2, 3, 4, 10, 13, 16, 100006, 100007] (by decide) rfl rfl 13 _ _ _ (by kernel_rfl) (by kernel_rfl) (by kernel_rfl) (by kernel_rfl) (by kernel_rfl) (by kernel_rfl)⟩
  exact ⟨_, rfl, callU (hand := [0, 1, 2, 100006]) (nb := 100007) [] (g_codec_newWriter_1_ret e39) [0, 1, 2, 3, 4, 10, 13, 16, 100006, 100007] (by decide) rfl rfl 15 _ _ _ (by kernel_rfl) (by kernel_rfl) (by kernel_rfl) (by kernel_rfl) (by kernel_rfl) (by kernel_rfl)⟩
  exact Exists.intro r_37 (And.intro h (arr [] [0, 2, 4, 12, 13, 14] [13] [0, 1, 2, 3, 4, 10, 100007] (by kernel_rfl)))
  replace h := hz41 rfl
  replace h := up_inv h hy1
  obtain rfl := some_inv h
  refine T_stC [{}, {}, {}, {}, { h := zd (I 1) }, {}, {}, {}, {}, {}, {}, { h := zd (.str x_28) }, {}, {}, {}, {}, {}] _ [(0, 19, (rf 4 0)), (1, 20, (rf 13 0)), (2, 21, (di x_13.k)), (3, 22, (rf 4 0)), (4, 23, (rf 4 1)), (5, 24, (rf 4 1)), (6, 25, (.one (.fn 39 []))), (7, 26, (ow 16)), (8, 27, (rf 10 4)), (9, 28, (dt (.sl 1 (v_2.ks.map elStr)))), (10, 29, (di ((v_6 : Nat) : Int))), (11, 30, (dt (.ptr [(.str x_28)]))), (12, 31, (dt (.str x_28))), (13, 0, J), (13, 26, J), (13, 32, (ow 100006)), (14, 33, (.agg (qVal x_13)))] [(13, 16, none), (13, 100006, some (.row 5 1 (r_32.map elB)))] [0, 1, 2, 3, 4, 10, 13, 16, 100006] 17 [0, 0, 2, 1, 15, 31, 63, 0, 0, 256, 0, 1792, 3840, 8064, 0, 32767, 65535] 106496 [0, 8192] [13, 15] (some 15) (by kernel_rfl) (by decide) (by kernel_rfl) (by kernel_rfl) (by kernel_rfl) (by kernel_rfl) (by kernel_rfl) (by kernel_rfl) (by kernel_rfl) (zs zt (zs zt (zs zt (zs zt (zs (eq_of_beq b27) (zs zt (zs zt (zs zt (zs zt (zs zt (zs zt (zs e29 (zs zt (zs zt (zs zt (zs zt (zs zt zS))))))))))))))))) ?_ (fun h => absurd h (by decide))
  intro c hc; simp only [List.mem_cons, List.not_mem_nil, or_false] at hc; rcases hc with rfl | rfl
  exact ⟨_, rfl, callU (hand := [0, 1, 2, 16]) (nb := 100006) [] (g_codec_text_ret e34) [0, 1, 2, 3, 4, 10, 13, 16, 100006] (by decide) rfl rfl 13 _ _ _ (by kernel_rfl) (by kernel_rfl) (by kernel_rfl) (by kernel_rfl) (by kernel_rfl) (by kernel_rfl)⟩
  refine ⟨_, rfl, callP (hand := [0, 1, 2, 100006]) (nb := 100007) [] (g_codec_newWriter_1_ret e39) rfl rfl 15 _ _ _ (by kernel_rfl) (by kernel_rfl) (by kernel_rfl) (by kernel_rfl) (fun _ _ hlk => ?_)⟩
  exact (show _ ∧ _ from ⟨rfl, ⟨_, rfl, lk3 ((after_lk (by kernel_rfl) rfl).trans (by rw [hlk 0 (by decide)]; kernel_rfl)) ((after_lk (by kernel_rfl) rfl).trans (by rw [hlk 1 (by decide)]; kernel_rfl)) ((after_lk (by kernel_rfl) rfl).trans (by rw [hlk 2 (by decide)]; kernel_rfl))⟩⟩)
  replace h := hz36 rfl
  replace h := up_inv h hy1
  obtain rfl := some_inv h
  refine T_stC [{}, {}, {}, {}, { h := zd (I 1) }, {}, {}, {}, {}, {}, {}, { h := zd (.str x_28) }, {}, {}, {}, {}, {}] _ [(0, 19, (rf 4 0)), (1, 20, (rf 13 0)), (2, 21, (di x_13.k)), (3, 22, (rf 4 0)), (4, 23, (rf 4 1)), (5, 24, (rf 4 1)), (6, 25, (.one (.fn 39 []))), (7, 26, (ow 16)), (8, 27, (rf 10 4)), (9, 28, (dt (.sl 1 (v_2.ks.map elStr)))), (10, 29, (di ((v_6 : Nat) : Int))), (11, 30, (dt (.ptr [(.str x_28)]))), (12, 31, (dt (.str x_28))), (14, 33, (.agg (qVal x_13)))] [] [0, 1, 2, 3, 4, 10, 13, 16] 17 [0, 0, 2, 1, 15, 31, 63, 0, 0, 256, 0, 1792, 3840, 8064, 0, 32767, 65535] 106496 [0] [13] (some 13) (by kernel_rfl) (by decide) (by kernel_rfl) (by kernel_rfl) (by kernel_rfl) (by kernel_rfl) (by kernel_rfl) (by kernel_rfl) (by kernel_rfl) (zs zt (zs zt (zs zt (zs zt (zs (eq_of_beq b27) (zs zt (zs zt (zs zt (zs zt (zs zt (zs zt (zs e29 (zs zt (zs zt (zs zt (zs zt (zs zt zS))))))))))))))))) ?_ (fun h => absurd h (by decide))
  intro c hc; simp only [List.mem_cons, List.not_mem_nil, or_false] at hc; rcases hc with rfl
  refine ⟨_, rfl, callP (hand := [0, 1, 2, 16]) (nb := 100006) [] (g_codec_text_ret e34) rfl rfl 13 _ _ _ (by kernel_rfl) (by kernel_rfl) (by kernel_rfl) (by kernel_rfl) (fun _ _ hlk => ?_)⟩
  exact (show _ ∧ _ from ⟨rfl, ⟨_, rfl, lk3 ((after_lk (by kernel_rfl) rfl).trans (by rw [hlk 0 (by decide)]; kernel_rfl)) ((after_lk (by kernel_rfl) rfl).trans (by rw [hlk 1 (by decide)]; kernel_rfl)) ((after_lk (by kernel_rfl) rfl).trans (by rw [hlk 2 (by decide)]; kernel_rfl))⟩⟩)
  replace h := ite_f b27 h
  rcases Bool.eq_false_or_eq_true (x_13.k == 2) with b42 | b42
  replace h := ite_t b42 h
  obtain ⟨x_43, e44, e45, e46, h⟩ := gn_inv elStr h
  obtain ⟨y48, e49, hk50, hz51⟩ := bdP_inv h
  rcases y48 with r_47 | u
  replace h := hk50 _ rfl
  obtain ⟨y53, e54, hk55, hz56⟩ := bdP_inv h
  rcases y53 with r_52 | u
  replace h := hk55 _ rfl
  refine T_stC [{}, {}, {}, {}, { h := zd (I 2) }, {}, {}, {}, {}, {}, {}, { h := zd (.str x_43) }, {}, {}, {}, {}, {}] _ [(0, 19, (rf 4 0)), (1, 20, (rf 13 0)), (2, 21, (di x_13.k)), (3, 22, (rf 4 0)), (4, 23, (rf 4 2)), (5, 24, (rf 4 2)), (6, 25, (.one (.fn 41 []))), (7, 26, (ow 16)), (8, 27, (rf 10 4)), (9, 28, (dt (.sl 1 (v_2.ks.map elStr)))), (10, 29, (di ((v_6 : Nat) : Int))), (11, 30, (dt (.ptr [(.str x_43)]))), (12, 31, (dt (.str x_43))), (13, 0, J), (13, 26, J), (13, 32, (ow 100006)), (14, 33, (.agg (qVal x_13))), (15, 32, J), (15, 34, (ow 100007)), (16, 0, (ow 100007))] [(13, 16, none), (13, 100006, some (.row 5 1 (r_47.map elB))), (15, 100006, none), (15, 100007, some (.row 5 1 (r_52.map elB)))] [0, 1, 2, 3, 4, 10, 13, 16, 100006, 100007] 17 [0, 0, 2, 1, 15, 31, 63, 0, 0, 256, 0, 1792, 3840, 8064, 0, 32767, 65535] 106496 [0, 8192, 40960, 106496] [13, 15] none (by kernel_rfl) (by decide) (by kernel_rfl) (by kernel_rfl) (by kernel_rfl) (by kernel_rfl) (by kernel_rfl) (by kernel_rfl) (by kernel_rfl) (zs zt (zs zt (zs zt (zs zt (zs (eq_of_beq b42) (zs zt (zs zt (zs zt (zs zt (zs zt (zs zt (zs e44 (zs zt (zs zt (zs zt (zs zt (zs (zc zt zt) zS))))))))))))))))) ?_ (fun _ => ?_)
  intro c hc; simp only [List.mem_cons, List.not_mem_nil, or_false] at hc; rcases hc with rfl | rfl
  exact ⟨_, rfl, callU (hand := [0, 1, 2, 16]) (nb := 100006) [] (g_codec_text_ret e49) [0, 1, 2, 3, 4, 10, 13, 16, 100006, 100007] (by decide) rfl rfl 13 _ _ _ (by kernel_rfl) (by kernel_rfl) (by kernel_rfl) (by kernel_rfl) (by kernel_rfl) (by kernel_rfl)⟩
  exact ⟨_, rfl, callU (hand := [0, 1, 2, 100006]) (nb := 100007) [] (g_codec_newWriter_2_ret e54) [0, 1, 2, 3, 4, 10, 13, 16, 100006, 100007] (by decide) rfl rfl 15 _ _ _ (by kernel_rfl) (by kernel_rfl) (by kernel_rfl) (by kernel_rfl) (by kernel_rfl) (by kernel_rfl)⟩
  exact Exists.intro r_52 (And.intro h (arr [] [0, 2, 4, 12, 13, 14] [13] [0, 1, 2, 3, 4, 10, 100007] (by kernel_rfl)))
  replace h := hz56 rfl
  replace h := up_inv h hy1
  obtain rfl := some_inv h
  refine T_stC [{}, {}, {}, {}, { h := zd (I 2) }, {}, {}, {}, {}, {}, {}, { h := zd (.str x_43) }, {}, {}, {}, {}, {}] _ [(0, 19, (rf 4 0)), (1, 20, (rf 13 0)), (2, 21, (di x_13.k)), (3, 22, (rf 4 0)), (4, 23, (rf 4 2)), (5, 24, (rf 4 2)), (6, 25, (.one (.fn 41 []))), (7, 26, (ow 16)), (8, 27, (rf 10 4)), (9, 28, (dt (.sl 1 (v_2.ks.map elStr)))), (10, 29, (di ((v_6 : Nat) : Int))), (11, 30, (dt (.ptr [(.str x_43)]))), (12, 31, (dt (.str x_43))), (13, 0, J), (13, 26, J), (13, 32, (ow 100006)), (14, 33, (.agg (qVal x_13)))] [(13, 16, none), (13, 100006, some (.row 5 1 (r_47.map elB)))] [0, 1, 2, 3, 4, 10, 13, 16, 100006] 17 [0, 0, 2, 1, 15, 31, 63, 0, 0, 256, 0, 1792, 3840, 8064, 0, 32767, 65535] 106496 [0, 8192] [13, 15] (some 15) (by kernel_rfl) (by decide) (by kernel_rfl) (by kernel_rfl) (by kernel_rfl) (by kernel_rfl) (by kernel_rfl) (by kernel_rfl) (by kernel_rfl) (zs zt (zs zt (zs zt (zs zt (zs (eq_of_beq b42) (zs zt (zs zt (zs zt (zs zt (zs zt (zs zt (zs e44 (zs zt (zs zt (zs zt (zs zt (zs zt zS))))))))))))))))) ?_ (fun h => absurd h (by decide))
  intro c hc; simp only [List.mem_cons, List.not_mem_nil, or_false] at hc; rcases hc with rfl | rfl
  exact ⟨_, rfl, callU (hand := [0, 1, 2, 16]) (nb := 100006) [] (g_codec_text_ret e49) [0, 1, 2, 3, 4, 10, 13, 16, 100006] (by decide) rfl rfl 13 _ _ _ (by kernel_rfl) (by kernel_rfl) (by kernel_rfl) (by kernel_rfl) (by kernel_rfl) (by kernel_rfl)⟩
  refine ⟨_, rfl, callP (hand := [0, 1, 2, 100006]) (nb := 100007) [] (g_codec_newWriter_2_ret e54) rfl rfl 15 _ _ _ (by kernel_rfl) (by kernel_rfl) (by kernel_rfl) (by kernel_rfl) (fun _ _ hlk => ?_)⟩
  exact (show _ ∧ _ from ⟨rfl, ⟨_, rfl, lk3 ((after_lk (by kernel_rfl) rfl).trans (by rw [hlk 0 (by decide)]; kernel_rfl)) ((after_lk (by kernel_rfl) rfl).trans (by rw [hlk 1 (by decide)]; kernel_rfl)) ((after_lk (by kernel_rfl) rfl).trans (by rw [hlk 2 (by decide)]; kernel_rfl))⟩⟩)
  replace h := hz51 rfl
  replace h := up_inv h hy1
  obtain rfl := some_inv h
  refine T_stC [{}, {}, {}, {}, { h := zd (I 2) }, {}, {}, {}, {}, {}, {}, { h := zd (.str x_43) }, {}, {}, {}, {}, {}] _ [(0, 19, (rf 4 0)), (1, 20, (rf 13 0)), (2, 21, (di x_13.k)), (3, 22, (rf 4 0)), (4, 23, (rf 4 2)), (5, 24, (rf 4 2)), (6, 25, (.one (.fn 41 []))), (7, 26, (ow 16)), (8, 27, (rf 10 4)), (9, 28, (dt (.sl 1 (v_2.ks.map elStr)))), (10, 29, (di ((v_6 : Nat) : Int))), (11, 30, (dt (.ptr [(.str x_43)]))), (12, 31, (dt (.str x_43))), (14, 33, (.agg (qVal x_13)))] [] [0, 1, 2, 3, 4, 10, 13, 16] 17 [0, 0, 2, 1, 15, 31, 63, 0, 0, 256, 0, 1792, 3840, 8064, 0, 32767, 65535] 106496 [0] [13] (some 13) (by kernel_rfl) (by decide) (by kernel_rfl) (by kernel_rfl) (by kernel_rfl) (by kernel_rfl) (by kernel_rfl) (by kernel_rfl) (by kernel_rfl) (zs zt (zs zt (zs zt (zs zt (zs (eq_of_beq b42) (zs zt (zs zt (zs zt (zs zt (zs zt (zs zt (zs e44 (zs zt (zs zt (zs zt (zs zt (zs zt zS))))))))))))))))) ?_ (fun h => absurd h (by decide))
  intro c hc; simp only [List.mem_cons, List.not_mem_nil, or_false] at hc; rcases hc with rfl
  refine ⟨_, rfl, callP (hand := [0, 1, 2, 16]) (nb := 100006) [] (g_codec_text_ret e49) rfl rfl 13 _ _ _ (by kernel_rfl) (by kernel_rfl) (by kernel_rfl) (by kernel_rfl) (fun _ _ hlk => ?_)⟩
  exact (show _ ∧ _ from ⟨rfl, ⟨_, rfl, lk3 ((after_lk (by kernel_rfl) rfl).trans (by rw [hlk 0 (by decide)]; kernel_rfl)) ((after_lk (by kernel_rfl) rfl).trans (by rw [hlk 1 (by decide)]; kernel_rfl)) ((after_lk (by kernel_rfl) rfl).trans (by rw [hlk 2 (by decide)]; kernel_rfl))⟩⟩)
  replace h := ite_f b42 h
  rcases Bool.eq_false_or_eq_true (x_13.k == 3) with b57 | b57
  replace h := ite_t b57 h
  obtain ⟨x_58, e59, e60, e61, h⟩ := gn_inv elStr h
  obtain ⟨y63, e64, hk65, hz66⟩ := bdP_inv h
  rcases y63 with r_62 | u
  replace h := hk65 _ rfl
  obtain ⟨y68, e69, hk70, hz71⟩ := bdP_inv h
  rcases y68 with r_67 | u
  replace h := hk70 _ rfl
  refine T_stC [{}, {}, {}, {}, { h := zd (I 3) }, {}, {}, {}, {}, {}, {}, { h := zd (.str x_58) }, {}, {}, {}, {}, {}] _ [(0, 19, (rf 4 0)), (1, 20, (rf 13 0)), (2, 21, (di x_13.k)), (3, 22, (rf 4 0)), (4, 23, (rf 4 3)), (5, 24, (rf 4 3)), (6, 25, (.one (.fn 43 [.inl 3]))), (7, 26, (ow 16)), (8, 27, (rf 10 4)), (9, 28, (dt (.sl 1 (v_2.ks.map elStr)))), (10, 29, (di ((v_6 : Nat) : Int))), (11, 30, (dt (.ptr [(.str x_58)]))), (12, 31, (dt (.str x_58))), (13, 0, J), (13, 26, J), (13, 32, (ow 100006)), (14, 33, (.agg (qVal x_13))), (15, 32, J), (15, 34, (ow 100007)), (16, 0, (ow 100007))] [(13, 16, none), (13, 100006, some (.row 5 1 (r_62.map elB))), (15, 100006, none), (15, 100007, some (.row 5 1 (r_67.map elB)))] [0, 1, 2, 3, 4, 10, 13, 16, 100006, 100007] 17 [0, 0, 2, 1, 15, 31, 63, 0, 0, 256, 0, 1792, 3840, 8064, 0, 32767, 65535] 106496 [0, 8192, 40960, 106496] [13, 15] none (by kernel_rfl) (by decide) (by kernel_rfl) (by kernel_rfl) (by kernel_rfl) (by kernel_rfl) (by kernel_rfl) (by kernel_rfl) (by kernel_rfl) (zs zt (zs zt (zs zt (zs zt (zs (eq_of_beq b57) (zs zt (zs zt (zs zt (zs zt (zs zt (zs zt (zs e59 (zs zt (zs zt (zs zt (zs zt (zs (zc zt zt) zS))))))))))))))))) ?_ (fun _ => ?_)
  intro c hc; simp only [List.mem_cons, List.not_mem_nil, or_false] at hc; rcases hc with rfl | rfl
  exact ⟨_, rfl, callU (hand := [0, 1, 2, 16]) (nb := 100006) [] (g_codec_text_ret e64) [0, 1, 2, 3, 4, 10, 13, 16, 100006, 100007] (by decide) rfl rfl 13 _ _ _ (by kernel_rfl) (by kernel_rfl) (by kernel_rfl) (by kernel_rfl) (by kernel_rfl) (by kernel_rfl)⟩
  exact ⟨_, rfl, callU (hand := [0, 1, 2, 3, 4, 100006]) (nb := 100007) [.inl 3] (hrc43 e69) [0, 1, 2, 3, 4, 10, 13, 16, 100006, 100007] (by decide) rfl rfl 15 _ _ _ (by kernel_rfl) (by kernel_rfl) (by kernel_rfl) (by kernel_rfl) (by kernel_rfl) (by kernel_rfl)⟩
  exact Exists.intro r_67 (And.intro h (arr [] [0, 2, 4, 12, 13, 14] [13] [0, 1, 2, 3, 4, 10, 100007] (by kernel_rfl)))
  replace h := hz71 rfl
  replace h := up_inv h hy1
  obtain rfl := some_inv h
  refine T_stC [{}, {}, {}, {}, { h := zd (I 3) }, {}, {}, {}, {}, {}, {}, { h := zd (.str x_58) }, {}, {}, {}, {}, {}] _ [(0, 19, (rf 4 0)), (1, 20, (rf 13 0)), (2, 21, (di x_13.k)), (3, 22, (rf 4 0)), (4, 23, (rf 4 3)), (5, 24, (rf 4 3)), (6, 25, (.one (.fn 43 [.inl 3]))), (7, 26, (ow 16)), (8, 27, (rf 10 4)), (9, 28, (dt (.sl 1 (v_2.ks.map elStr)))), (10, 29, (di ((v_6 : Nat) : Int))), (11, 30, (dt (.ptr [(.str x_58)]))), (12, 31, (dt (.str x_58))), (13, 0, J), (13, 26, J), (13, 32, (ow 100006)), (14, 33, (.agg (qVal x_13)))] [(13, 16, none), (13, 100006, some (.row 5 1 (r_62.map elB)))] [0, 1, 2, 3, 4, 10, 13, 16, 100006] 17 [0, 0, 2, 1, 15, 31, 63, 0, 0, 256, 0, 1792, 3840, 8064, 0, 32767, 65535] 106496 [0, 8192] [13, 15] (some 15) (by kernel_rfl) (by decide) (by kernel_rfl) (by kernel_rfl) (by kernel_rfl) (by kernel_rfl) (by kernel_rfl) (by kernel_rfl) (by kernel_rfl) (zs zt (zs zt (zs zt (zs zt (zs (eq_of_beq b57) (zs zt (zs zt (zs zt (zs zt (zs zt (zs zt (zs e59 (zs zt (zs zt (zs zt (zs zt (zs zt zS))))))))))))))))) ?_ (fun h => absurd h (by decide))
  intro c hc; simp only [List.mem_cons, List.not_mem_nil, or_false] at hc; rcases hc with rfl | rfl
  exact ⟨_, rfl, callU (hand := [0, 1, 2, 16]) (nb := 100006) [] (g_codec_text_ret e64) [0, 1, 2, 3, 4, 10, 13, 16, 100006] (by decide) rfl rfl 13 _ _ _ (by kernel_rfl) (by kernel_rfl) (by kernel_rfl) (by kernel_rfl) (by kernel_rfl) (by kernel_rfl)⟩
  refine ⟨_, rfl, callP (hand := [0, 1, 2, 3, 4, 100006]) (nb := 100007) [.inl 3] (hrc43 e69) rfl rfl 15 _ _ _ (by kernel_rfl) (by kernel_rfl) (by kernel_rfl) (by kernel_rfl) (fun _ _ hlk => ?_)⟩
  exact (show _ ∧ _ from ⟨rfl, ⟨_, rfl, lk3 ((after_lk (by kernel_rfl) rfl).trans (by rw [hlk 0 (by decide)]; kernel_rfl)) ((after_lk (by kernel_rfl) rfl).trans (by rw [hlk 1 (by decide)]; kernel_rfl)) ((after_lk (by kernel_rfl) rfl).trans (by rw [hlk 2 (by decide)]; kernel_rfl))⟩⟩)
  replace h := hz66 rfl
  replace h := up_inv h hy1
  obtain rfl := some_inv h
  refine T_stC [{}, {}, {}, {}, { h := zd (I 3) }, {}, {}, {}, {}, {}, {}, { h := zd (.str x_58) }, {}, {}, {}, {}, {}] _ [(0, 19, (rf 4 0)), (1, 20, (rf 13 0)), (2, 21, (di x_13.k)), (3, 22, (rf 4 0)), (4, 23, (rf 4 3)), (5, 24, (rf 4 3)), (6, 25, (.one (.fn 43 [.inl 3]))), (7, 26, (ow 16)), (8, 27, (rf 10 4)), (9, 28, (dt (.sl 1 (v_2.ks.map elStr)))), (10, 29, (di ((v_6 : Nat) : Int))), (11, 30, (dt (.ptr [(.str x_58)]))), (12, 31, (dt (.str x_58))), (14, 33, (.agg (qVal x_13)))] [] [0, 1, 2, 3, 4, 10, 13, 16] 17 [0, 0, 2, 1, 15, 31, 63, 0, 0, 256, 0, 1792, 3840, 8064, 0, 32767, 65535] 106496 [0] [13] (some 13) (by kernel_rfl) (by decide) (by kernel_rfl) (by kernel_rfl) (by kernel_rfl) (by kernel_rfl) (by kernel_rfl) (by kernel_rfl) (by kernel_rfl) (zs zt (zs zt (zs zt (zs zt (zs (eq_of_beq b57) (zs zt (zs zt (zs zt (zs zt (zs zt (zs zt (zs e59 (zs zt (zs zt (zs zt (zs zt (zs zt zS))))))))))))))))) ?_ (fun h => absurd h (by decide))
  intro c hc; simp only [List.mem_cons, List.not_mem_nil, or_false] at hc; rcases hc with rfl
  refine ⟨_, rfl, callP (hand := [0, 1, 2, 16]) (nb := 100006) [] (g_codec_text_ret e64) rfl rfl 13 _ _ _ (by kernel_rfl) (by kernel_rfl) (by kernel_rfl) (by kernel_rfl) (fun _ _ hlk => ?_)⟩
  exact (show _ ∧ _ from ⟨rfl, ⟨_, rfl, lk3 ((after_lk (by kernel_rfl) rfl).trans (by rw [hlk 0 (by decide)]; kernel_rfl)) ((after_lk (by kernel_rfl) rfl).trans (by rw [hlk 1 (by decide)]; kernel_rfl)) ((after_lk (by kernel_rfl) rfl).trans (by rw [hlk 2 (by decide)]; kernel_rfl))⟩⟩)
  replace h := ite_f b57 h
  obtain ⟨c72, h⟩ := ck_inv h
  obtain ⟨x_73, e74, e75, e76, h⟩ := gn_inv elStr h
  obtain ⟨y78, e79, hk80, hz81⟩ := bdP_inv h
  rcases y78 with r_77 | u
  replace h := hk80 _ rfl
  obtain ⟨y83, e84, hk85, hz86⟩ := bdP_inv h
  rcases y83 with r_82 | u
  replace h := hk85 _ rfl
  refine T_stC [{}, {}, {}, {}, { h := zd (I 4) }, {}, {}, {}, {}, {}, {}, { h := zd (.str x_73) }, {}, {}, {}, {}, {}] _ [(0, 19, (rf 4 0)), (1, 20, (rf 13 0)), (2, 21, (di x_13.k)), (3, 22, (rf 4 0)), (4, 23, (rf 4 4)), (5, 24, (rf 4 4)), (6, 25, (.one (.fn 44 [.inl 3]))), (7, 26, (ow 16)), (8, 27, (rf 10 4)), (9, 28, (dt (.sl 1 (v_2.ks.map elStr)))), (10, 29, (di ((v_6 : Nat) : Int))), (11, 30, (dt (.ptr [(.str x_73)]))), (12, 31, (dt (.str x_73))), (13, 0, J), (13, 26, J), (13, 32, (ow 100006)), (14, 33, (.agg (qVal x_13))), (15, 32, J), (15, 34, (ow 100007)), (16, 0, (ow 100007))] [(13, 16, none), (13, 100006, some (.row 5 1 (r_77.map elB))), (15, 100006, none), (15, 100007, some (.row 5 1 (r_82.map elB)))] [0, 1, 2, 3, 4, 10, 13, 16, 100006, 100007] 17 [0, 0, 2, 1, 15, 31, 63, 0, 0, 256, 0, 1792, 3840, 8064, 0, 32767, 65535] 106496 [0, 8192, 40960, 106496] [13, 15] none (by kernel_rfl) (by decide) (by kernel_rfl) (by kernel_rfl) (by kernel_rfl) (by kernel_rfl) (by kernel_rfl) (by kernel_rfl) (by kernel_rfl) (zs zt (zs zt (zs zt (zs zt (zs c72 (zs zt (zs zt (zs zt (zs zt (zs zt (zs zt (zs e74 (zs zt (zs zt (zs zt (zs zt (zs (zc zt zt) zS))))))))))))))))) ?_ (fun _ => ?_)
  intro c hc; simp only [List.mem_cons, List.not_mem_nil, or_false] at hc; rcases hc with rfl | rfl
  exact ⟨_, rfl, callU (hand := [0, 1, 2, 16]) (nb := 100006) [] (g_codec_text_ret e79) [0, 1, 2, 3, 4, 10, 13, 16, 100006, 100007] (by decide) rfl rfl 13 _ _ _ (by kernel_rfl) (by kernel_rfl) (by kernel_rfl) (by kernel_rfl) (by kernel_rfl) (by kernel_rfl)⟩
  exact ⟨_, rfl, callU (hand := [0, 1, 2, 3, 4, 100006]) (nb := 100007) [.inl 3] (hrc44 e84) [0, 1, 2, 3, 4, 10, 13, 16, 100006, 100007] (by decide) rfl rfl 15 _ _ _ (by kernel_rfl) (by kernel_rfl) (by kernel_rfl) (by kernel_rfl) (by kernel_rfl) (by kernel_rfl)⟩
  exact Exists.intro r_82 (And.intro h (arr [] [0, 2, 4, 12, 13, 14] [13] [0, 1, 2, 3, 4, 10, 100007] (by kernel_rfl)))
  replace h := hz86 rfl
  replace h := up_inv h hy1
  obtain rfl := some_inv h
  refine T_stC [{}, {}, {}, {}, { h := zd (I 4) }, {}, {}, {}, {}, {}, {}, { h := zd (.str x_73) }, {}, {}, {}, {}, {}] _ [(0, 19, (rf 4 0)), (1, 20, (rf 13 0)), (2, 21, (di x_13.k)), (3, 22, (rf 4 0)), (4, 23, (rf 4 4)), (5, 24, (rf 4 4)), (6, 25, (.one (.fn 44 [.inl 3]))), (7, 26, (ow 16)), (8, 27, (rf 10 4)), (9, 28, (dt (.sl 1 (v_2.ks.map elStr)))), (10, 29, (di ((v_6 : Nat) : Int))), (11, 30, (dt (.ptr [(.str x_73)]))), (12, 31, (dt (.str x_73))), (13, 0, J), (13, 26, J), (13, 32, (ow 100006)), (14, 33, (.agg (qVal x_13)))] [(13, 16, none), (13, 100006, some (.row 5 1 (r_77.map elB)))] [0, 1, 2, 3, 4, 10, 13, 16, 100006] 17 [0, 0, 2, 1, 15, 31, 63, 0, 0, 256, 0, 1792, 3840, 8064, 0, 32767, 65535] 106496 [0, 8192] [13, 15] (some 15) (by kernel_rfl) (by decide) (by kernel_rfl) (by kernel_rfl) (by kernel_rfl) (by kernel_rfl) (by kernel_rfl) (by kernel_rfl) (by kernel_rfl) (zs zt (zs zt (zs zt (zs zt (zs c72 (zs zt (zs zt (zs zt (zs zt (zs zt (zs zt (zs e74 (zs zt (zs zt (zs zt (zs zt (zs zt zS))))))))))))))))) ?_ (fun h => absurd h (by decide))
  intro c hc; simp only [List.mem_cons, List.not_mem_nil, or_false] at hc; rcases hc with rfl | rfl
  exact ⟨_, rfl, callU (hand := [0, 1, 2, 16]) (nb := 100006) [] (g_codec_text_ret e79) [0, 1, 2, 3, 4, 10, 13, 16, 100006] (by decide) rfl rfl 13 _ _ _ (by kernel_rfl) (by kernel_rfl) (by kernel_rfl) (by kernel_rfl) (by kernel_rfl) (by kernel_rfl)⟩
  refine ⟨_, rfl, callP (hand := [0, 1, 2, 3, 4, 100006]) (nb := 100007) [.inl 3] (hrc44 e84) rfl rfl 15 _ _ _ (by kernel_rfl) (by kernel_rfl) (by kernel_rfl) (by kernel_rfl) (fun _ _ hlk => ?_)⟩
  exact (show _ ∧ _ from ⟨rfl, ⟨_, rfl, lk3 ((after_lk (by kernel_rfl) rfl).trans (by rw [hlk 0 (by decide)]; kernel_rfl)) ((after_lk (by kernel_rfl) rfl).trans (by rw [hlk 1 (by decide)]; kernel_rfl)) ((after_lk (by kernel_rfl) rfl).trans (by rw [hlk 2 (by decide)]; kernel_rfl))⟩⟩)
  replace h := hz81 rfl
  replace h := up_inv h hy1
  obtain rfl := some_inv h
  refine T_stC [{}, {}, {}, {}, { h := zd (I 4) }, {}, {}, {}, {}, {}, {}, { h := zd (.str x_73) }, {}, {}, {}, {}, {}] _ [(0, 19, (rf 4 0)), (1, 20, (rf 13 0)), (2, 21, (di x_13.k)), (3, 22, (rf 4 0)), (4, 23, (rf 4 4)), (5, 24, (rf 4 4)), (6, 25, (.one (.fn 44 [.inl 3]))), (7, 26, (ow 16)), (8, 27, (rf 10 4)), (9, 28, (dt (.sl 1 (v_2.ks.map elStr)))), (10, 29, (di ((v_6 : Nat) : Int))), (11, 30, (dt (.ptr [(.str x_73)]))), (12, 31, (dt (.str x_73))), (14, 33, (.agg (qVal x_13)))] [] [0, 1, 2, 3, 4, 10, 13, 16] 17 [0, 0, 2, 1, 15, 31, 63, 0, 0, 256, 0, 1792, 3840, 8064, 0, 32767, 65535] 106496 [0] [13] (some 13) (by kernel_rfl) (by decide) (by kernel_rfl) (by kernel_rfl) (by kernel_rfl) (by kernel_rfl) (by kernel_rfl) (by kernel_rfl) (by kernel_rfl) (zs zt (zs zt (zs zt (zs zt (zs c72 (zs zt (zs zt (zs zt (zs zt (zs zt (zs zt (zs e74 (zs zt (zs zt (zs zt (zs zt (zs zt zS))))))))))))))))) ?_ (fun h => absurd h (by decide))
  intro c hc; simp only [List.mem_cons, List.not_mem_nil, or_false] at hc; rcases hc with rfl
  refine ⟨_, rfl, callP (hand := [0, 1, 2, 16]) (nb := 100006) [] (g_codec_text_ret e79) rfl rfl 13 _ _ _ (by kernel_rfl) (by kernel_rfl) (by kernel_rfl) (by kernel_rfl) (fun _ _ hlk => ?_)⟩
  exact (show _ ∧ _ from ⟨rfl, ⟨_, rfl, lk3 ((after_lk (by kernel_rfl) rfl).trans (by rw [hlk 0 (by decide)]; kernel_rfl)) ((after_lk (by kernel_rfl) rfl).trans (by rw [hlk 1 (by decide)]; kernel_rfl)) ((after_lk (by kernel_rfl) rfl).trans (by rw [hlk 2 (by decide)]; kernel_rfl))⟩⟩)
  replace h := ite_f b10 h
  refine T_exit ?_
  replace h := up_inv h hy1
  exact Exists.intro l_7 (And.intro h (arr [] [0] [10] [0, 1, 2, 3, 4, 16] (by kernel_rfl)))

end Go.Proofs.YtimalbkjflfdoaaDoor

/-
  Go functions as partial functions, printed by auto.py: what each returns when its partial function has a value. Conditions: those of each theorem.
-/
namespace Go.Proofs.YtimalbkjflfdoaaDoor
open Go.DL
set_option maxRecDepth 100000
set_option maxHeartbeats 4000000
set_option linter.unusedVariables false
set_option linter.unusedSimpArgs false
noncomputable def g_writer : Nat → ((List UInt8) → (Val) → Option ((List UInt8) ⊕ Unit)) × ((List UInt8) → (Val) → Option ((List UInt8) ⊕ Unit))
  | 0 => (fun _ _ => none, fun _ _ => none)
  | fu + 1 => (g_codec_newWriter_3_s (g_writer fu).1 (g_writer fu).2, g_codec_newWriter_4_s (g_writer fu).1 (g_writer fu).2)
theorem g_writer_ret : ∀ (fu : Nat), (∀ {b_1 : List UInt8} {v_2 : Val} {r : (List UInt8) ⊕ Unit}, (g_writer fu).1 b_1 v_2 = some r → CT Tryd.prog 43 6 [(ow 5), (.agg (qVal v_2)), (rf 3 0)] [(0, (.obj (tabP Tryd.prog))), (1, (.obj (errP 1))), (2, (.obj (errP 2))), (3, (.var [(.ref 4 0)])), (4, (.var [(.dat (.con .nilFunc)), (.fn 39 []), (.fn 41 []), (.fn 43 [.inl 3]), (.fn 44 [.inl 3])])), (5, (.row 5 1 (b_1.map elB)))] (CoR 3 ghosts (fun x => ((ow 6), [(0, (.obj (tabP Tryd.prog))), (1, (.obj (errP 1))), (2, (.obj (errP 2))), (3, (.var [(.ref 4 0)])), (4, (.var [(.dat (.con .nilFunc)), (.fn 39 []), (.fn 41 []), (.fn 43 [.inl 3]), (.fn 44 [.inl 3])])), (6, (.row 5 1 (x.map elB)))])) (.iface 29 (.int .i64 20)) r)) ∧ (∀ {b_1 : List UInt8} {v_2 : Val} {r : (List UInt8) ⊕ Unit}, (g_writer fu).2 b_1 v_2 = some r → CT Tryd.prog 44 6 [(ow 5), (.agg (qVal v_2)), (rf 3 0)] [(0, (.obj (tabP Tryd.prog))), (1, (.obj (errP 1))), (2, (.obj (errP 2))), (3, (.var [(.ref 4 0)])), (4, (.var [(.dat (.con .nilFunc)), (.fn 39 []), (.fn 41 []), (.fn 43 [.inl 3]), (.fn 44 [.inl 3])])), (5, (.row 5 1 (b_1.map elB)))] (CoR 3 ghosts (fun x => ((ow 6), [(0, (.obj (tabP Tryd.prog))), (1, (.obj (errP 1))), (2, (.obj (errP 2))), (3, (.var [(.ref 4 0)])), (4, (.var [(.dat (.con .nilFunc)), (.fn 39 []), (.fn 41 []), (.fn 43 [.inl 3]), (.fn 44 [.inl 3])])), (6, (.row 5 1 (x.map elB)))])) (.iface 29 (.int .i64 20)) r))
  | 0 => ⟨fun h => (by cases h), fun h => (by cases h)⟩
  | fu + 1 => ⟨fun h => g_codec_newWriter_3_s_ret (g_writer_ret fu).1 (g_writer_ret fu).2 h, fun h => g_codec_newWriter_4_s_ret (g_writer_ret fu).1 (g_writer_ret fu).2 h⟩
theorem newWriter_ret : CT Tryd.prog 26 3 [] [(0, (.obj (tabP Tryd.prog))), (1, (.obj (errP 1))), (2, (.obj (errP 2)))] (CoR 3 ghosts (fun (_ : Unit) => ((rf 6 0), [(0, (.obj (tabP Tryd.prog))), (1, (.obj (errP 1))), (2, (.obj (errP 2))), (4, (.var [(.ref 6 0)])), (6, (.var [(.dat (.con .nilFunc)), (.fn 39 []), (.fn 41 []), (.fn 43 [.inl 4]), (.fn 44 [.inl 4])]))])) (.iface 29 (.int .i64 20)) (.inl ())) := by
  refine CT.of_T Tryd.func26 (by kernel_rfl) rfl ?_
  refine T_turn [] [] [] (mk 23 [] [(0, (.obj (tabP Tryd.prog))), (1, (.obj (errP 1))), (2, (.obj (errP 2)))]) (by kernel_rfl) ?_
  refine T_reg [] [] [] (mk 23 [] [(0, (.obj (tabP Tryd.prog))), (1, (.obj (errP 1))), (2, (.obj (errP 2)))]) _ (by kernel_rfl) (z2 zt) ?_
  refine T_reg [] [1] [] (mk 23 [(1, (rf 4 0))] [(4, (.var [(.ref 6 0)])), (6, (.var [(.dat (.con .nilFunc)), (.dat (.con .nilFunc)), (.dat (.con .nilFunc)), (.dat (.con .nilFunc)), (.dat (.con .nilFunc))])), (0, (.obj (tabP Tryd.prog))), (1, (.obj (errP 1))), (2, (.obj (errP 2)))]) _ (by kernel_rfl) (z8 zt) ?_
  refine T_reg [zn, zn, (zd (I 1))] [1] [] (mk 23 [(1, (rf 4 0))] [(4, (.var [(.ref 6 0)])), (6, (.var [(.dat (.con .nilFunc)), (.fn 39 []), (.dat (.con .nilFunc)), (.dat (.con .nilFunc)), (.dat (.con .nilFunc))])), (0, (.obj (tabP Tryd.prog))), (1, (.obj (errP 1))), (2, (.obj (errP 2)))]) _ (by kernel_rfl) (z5 (zc (rfl : (1 : Int) = 1) (z4 zt))) ?_
  refine T_reg [zn, zn, (zd (I 2))] [1] [] (mk 23 [(1, (rf 4 0))] [(4, (.var [(.ref 6 0)])), (6, (.var [(.dat (.con .nilFunc)), (.fn 39 []), (.fn 41 []), (.dat (.con .nilFunc)), (.dat (.con .nilFunc))])), (0, (.obj (tabP Tryd.prog))), (1, (.obj (errP 1))), (2, (.obj (errP 2)))]) _ (by kernel_rfl) (z5 (zc (rfl : (2 : Int) = 2) (z4 zt))) ?_
  refine T_reg [zn, zn, zn, (zd (I 3))] [1] [] (mk 23 [(1, (rf 4 0))] [(4, (.var [(.ref 6 0)])), (6, (.var [(.dat (.con .nilFunc)), (.fn 39 []), (.fn 41 []), (.fn 43 [.inl 4]), (.dat (.con .nilFunc))])), (0, (.obj (tabP Tryd.prog))), (1, (.obj (errP 1))), (2, (.obj (errP 2)))]) _ (by kernel_rfl) (z7 (zc (rfl : (3 : Int) = 3) (z4 zt))) ?_
  refine T_reg [zn, zn, zn, (zd (I 4))] [1] [] (mk 23 [(1, (rf 4 0))] [(4, (.var [(.ref 6 0)])), (6, (.var [(.dat (.con .nilFunc)), (.fn 39 []), (.fn 41 []), (.fn 43 [.inl 4]), (.fn 44 [.inl 4])])), (0, (.obj (tabP Tryd.prog))), (1, (.obj (errP 1))), (2, (.obj (errP 2)))]) _ (by kernel_rfl) (z7 (zc (rfl : (4 : Int) = 4) (z4 zt))) ?_
  refine T_reg [] [0] [] (mk 23 [(0, (rf 6 0))] [(4, (.var [(.ref 6 0)])), (6, (.var [(.dat (.con .nilFunc)), (.fn 39 []), (.fn 41 []), (.fn 43 [.inl 4]), (.fn 44 [.inl 4])])), (0, (.obj (tabP Tryd.prog))), (1, (.obj (errP 1))), (2, (.obj (errP 2)))]) _ (by kernel_rfl) (z4 zt) ?_
  refine T_arr [] [0] [] [0, 1, 2, 4, 6] (mk 23 [(0, (rf 6 0))] [(0, (.obj (tabP Tryd.prog))), (1, (.obj (errP 1))), (2, (.obj (errP 2))), (4, (.var [(.ref 6 0)])), (6, (.var [(.dat (.con .nilFunc)), (.fn 39 []), (.fn 41 []), (.fn 43 [.inl 4]), (.fn 44 [.inl 4])]))]) (by kernel_rfl) ?_
  refine T_ret ?_
  exact ⟨[(rf 6 0)], by kernel_rfl, rfl⟩
end Go.Proofs.YtimalbkjflfdoaaDoor

/-
  Go functions as partial functions, printed by auto.py: what each returns when its partial function has a value. Conditions: those of each theorem.
-/
namespace Go.Proofs.YtimalbkjflfdoaaDoor
open Go.DL
set_option maxRecDepth 100000
set_option maxHeartbeats 4000000
set_option linter.unusedVariables false
set_option linter.unusedSimpArgs false
noncomputable def g_codec_Encode (v_1 : Val) : Option (((List UInt8) × Int) ⊕ Unit) :=
  bd (g_codec_Check v_1) fun r_2 => if (r_2 != 0) = true then (some (.inl (([] : List UInt8), r_2))) else if (v_1.k == 0) = true then (ck False none) else if (v_1.k == 1) = true then (bdP (g_codec_newWriter_1 ([] : List UInt8) v_1) (fun r_7 => some (.inl (r_7, 0))) (some (.inr ()))) else if (v_1.k == 2) = true then (bdP (g_codec_newWriter_2 ([] : List UInt8) v_1) (fun r_13 => some (.inl (r_13, 0))) (some (.inr ()))) else if (v_1.k == 3) = true then (bdP ((g_writer 60).1 ([] : List UInt8) v_1) (fun r_19 => some (.inl (r_19, 0))) (some (.inr ()))) else ck ((v_1.k : Int) = 4) <| bdP ((g_writer 60).2 ([] : List UInt8) v_1) (fun r_25 => some (.inl (r_25, 0))) (some (.inr ()))
end Go.Proofs.YtimalbkjflfdoaaDoor
