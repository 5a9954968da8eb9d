/-
  slices.Insert at holds, second part: at the end, and with a new row. Conditions: those of each theorem.
-/
import Derived.Test.YtpkbecaailhhmaaIns
import Derived.Test.YtpkbecaailhhmaaDLv
import Derived.Lib.BufferOwn
import Derived.Lib.AppendZerosOnto
import Derived.Laws.CopyOwn
namespace Go.Proofs.Ytpkbecaailhhmaa
open Go.DL Go.RowKit Go.Lib
set_option maxRecDepth 100000
set_option linter.unusedVariables false
set_option linter.unusedSimpArgs false

set_option maxHeartbeats 4000000 in
theorem ins_end_nil (w : World) (g2 m vc : Nat) (hm : 0 < m) {v' : Value} {w1 : World}
    (hr : ∀ ty, (Builtin.append_ #[24, 24] ty #[.slice none 0 0, .slice (some ⟨g2, 0, none⟩) m vc]).run Try.prog w = .ok v' w1) :
    Calls Try.prog 46 #[.slice none 0 0, .int .i64 (0 : Nat), .slice (some ⟨g2, 0, none⟩) m vc] w fun e w' => e = .returned v' ∧ w' = w1 := by
  have u3 := run_underlying (P := Try.prog) t3; have u4 := run_underlying (P := Try.prog) t4; have u24 := run_underlying (P := Try.prog) t24
  have t3 := t3; have t4 := t4; have t24 := t24; have mixed := mixed
  have a3 := agg3; have a4 := agg4; have a24 := agg24; have z54 := sz54
  have hz1 : ¬ ((m : Int) = 0) := by omega
  go_enter Try.func46, Try.ntmps46
  go_wp2_with (at_builtin; refine Lib.wpList_append_run _ rfl _ _ _ _ rfl _ _ rfl rfl _ _ (hr _) ?_)
  all_goals (go_ret; exact ⟨rfl, rfl⟩)

set_option maxHeartbeats 4000000 in
theorem ins_end_row (w : World) (g g2 n cap m vc : Nat) (hm : 0 < m) (hnc : n ≤ cap) (hcap : cap ≤ 9223372036854775807) {v' : Value} {w1 : World}
    (hr : ∀ ty, (Builtin.append_ #[24, 24] ty #[.slice (some ⟨g, 0, none⟩) n cap, .slice (some ⟨g2, 0, none⟩) m vc]).run Try.prog w = .ok v' w1) :
    Calls Try.prog 46 #[.slice (some ⟨g, 0, none⟩) n cap, .int .i64 n, .slice (some ⟨g2, 0, none⟩) m vc] w fun e w' => e = .returned v' ∧ w' = w1 := by
  have u3 := run_underlying (P := Try.prog) t3; have u4 := run_underlying (P := Try.prog) t4; have u24 := run_underlying (P := Try.prog) t24
  have t3 := t3; have t4 := t4; have t24 := t24; have mixed := mixed
  have a3 := agg3; have a4 := agg4; have a24 := agg24; have z54 := sz54
  have hz1 : ¬ ((m : Int) = 0) := by omega
  go_enter Try.func46, Try.ntmps46
  go_wp2_with (at_builtin; refine Lib.wpList_append_run _ rfl _ _ _ _ rfl _ _ rfl rfl _ _ (hr _) ?_)
  all_goals (go_ret; exact ⟨rfl, rfl⟩)

set_option maxHeartbeats 4000000 in
/-- A new row: there is no room, and the place lies before the end. -/
theorem ins_grow (w : World) (g g2 n cap i m vc : Nat) (cur cur2 : Array Value) (ys : List Value) (hi : i < n) (hm : 0 < m) (hnc : n ≤ cap) (hroom : cap < n + m) (hcap : cap ≤ 9223372036854775807) (hbig : (n + m) * 48 ≤ 140737488355328)
    (hg : w.heap[g]? = some (.cells cur 54 (0, 0))) (hg2 : w.heap[g2]? = some (.cells cur2 54 (0, 0))) (hcs : cur.size = cap * 4) (hyl : ys.length = m * 4)
    (hys : ∀ (j : Nat) (v : Value), ys[j]? = some v → cur2[j]? = some v) (h1x : ∀ v ∈ cur.toList.take (n * 4), v.oneCell' = true) (h1y : ∀ v ∈ ys, v.oneCell' = true) :
    Calls Try.prog 46 #[.slice (some ⟨g, 0, none⟩) n cap, .int .i64 i, .slice (some ⟨g2, 0, none⟩) m vc] w fun e w' =>
      ∃ gc row, e = .returned (.slice (some ⟨w.heap.size, 0, none⟩) (n + m) gc) ∧ n + m ≤ gc ∧ gc ≤ maxLen ∧ row.size = gc * 4 ∧
        row.toList.take ((n + m) * 4) = cur.toList.take (i * 4) ++ ys ++ (cur.toList.take (n * 4)).drop (i * 4) ∧
        w'.heap[w.heap.size]? = some (.cells row 54 (0, 0)) ∧ w.grownBy w' none := by
  have u3 := run_underlying (P := Try.prog) t3; have u4 := run_underlying (P := Try.prog) t4; have u24 := run_underlying (P := Try.prog) t24
  have t3 := t3; have t4 := t4; have t24 := t24; have mixed := mixed
  have a3 := agg3; have a4 := agg4; have a24 := agg24; have z54 := sz54
  have hz1 : ¬ ((m : Int) = 0) := by omega
  have hz2 : ¬ ((i : Int) = (n : Int)) := by omega
  have hw1 : IntKind.i64.wrap ((i : Int) + (m : Int)) = (i : Int) + (m : Int) := by rw [IntKind.wrap_i64]; omega
  have hw2 : IntKind.i64.wrap ((n : Int) + (m : Int)) = (n : Int) + (m : Int) := by rw [IntKind.wrap_i64]; omega
  have hw3 : IntKind.i64.wrap ((n : Int) + (m : Int) - (i : Int)) = ((n + m - i : Nat) : Int) := by rw [IntKind.wrap_i64]; omega
  have hb1 : (0 : Int) ≤ (i : Int) + (m : Int) := by omega
  have hin : i ≤ n := by omega
  have htn : ((i : Int) + (m : Int)).toNat = i + m := by omega
  have hsum : i + (n + m - i) = n + m := by omega
  obtain ⟨inf, hinf, hz, hzs, hzb⟩ : ∃ inf, Try.prog.info? 54 = some inf ∧ inf.zero.isSome = true ∧ inf.size = 4 ∧ inf.bytes = 48 := by
    have h : ((Try.prog.info? 54).map fun i => (i.zero.isSome, i.size, i.bytes)) = some (true, 4, 48) := by kernel_rfl
    cases hq : Try.prog.info? 54 with
    | none => simp [hq] at h
    | some i => simp [hq] at h; exact ⟨i, rfl, h⟩
  obtain ⟨z, hz⟩ := Option.isSome_iff_exists.1 hz
  have hzc : z.cells.size = 4 := by
    have h : ((Try.prog.info? 54).bind fun i => i.zero.map fun z => z.cells.size) = some 4 := by kernel_rfl
    simpa [hinf, hz] using h
  have hs54 : (Try.prog.info? 54).map (·.size) = some 4 := by simp [hinf, hzs]
  have hgd : w.drew.heap[g]? = some (.cells cur 54 (0, 0)) := hg
  have hg2d : w.drew.heap[g2]? = some (.cells cur2 54 (0, 0)) := hg2
  have hold : (Builtin.firstCells inf.size i (.slice (some ⟨g, 0, none⟩) i cap)).run Try.prog w.drew = .ok (cur.toList.take (i * 4)).toArray w.drew := by
    rw [hzs]
    refine run_firstCells_some w.drew 4 i ⟨g, 0, none⟩ i cap _ ?_ ?_
    · rw [List.length_take, Array.length_toList, hcs]; omega
    · intro j v hj
      rw [List.getElem?_take] at hj
      split at hj
      · rw [Addr.add_lit, cell_of_row w.drew _ _ cur 54 (0, 0) hgd]; simpa using hj
      · cases hj
  have hrun := fun ty => run_append_grow_zeros (P := Try.prog) w 24 3 ty 54 inf z .i64 .i64 t24 t3 hinf hz (some ⟨g, 0, none⟩) i cap (cur.toList.take (i * 4)) hold (n + m - i) (by omega) (by omega) (by omega) (by omega)
    (by rw [hzb]; omega) (by rw [hzb, hsum]; exact growslice_fits hroom hbig)
  rw [hsum] at hrun
  have hge := grownCap_ge w (n + m) cap 54
  have hle := grownCap_le_maxLen w (n + m) cap 54 (by simp only [maxLen]; omega)
  generalize grownCap w (n + m) cap 54 = gc at hrun hge hle
  obtain ⟨row1, hrow1⟩ : ∃ row1 : Array Value, row1 = (cur.toList.take (i * 4)).toArray ++ Builtin.zeroCells z.cells (n + m - i) ++ Builtin.zeroCells z.cells (gc - (n + m)) := ⟨_, rfl⟩
  rw [← hrow1] at hrun
  have hzl : ∀ k, (Builtin.zeroCells z.cells k).size = k * 4 := fun k => by rw [size_zeroCells, hzc]
  have hr1s : row1.size = gc * 4 := by
    rw [hrow1]; simp only [Array.size_append, List.size_toArray, List.length_take, Array.length_toList, hzl, hcs]; omega
  have hr1t : row1.toList.take (i * 4) = cur.toList.take (i * 4) := by
    have hl : (cur.toList.take (i * 4)).length = i * 4 := by rw [List.length_take, Array.length_toList, hcs]; omega
    rw [hrow1]
    simp only [Array.toList_append, List.append_assoc]
    rw [List.take_append_of_le_length (by omega), List.take_of_length_le (by omega)]
  obtain ⟨W1, hW1⟩ : ∃ W1, id (W1 = w.drew.alloc (.cells row1 54)) := ⟨_, rfl⟩
  have hW1' : w.drew.alloc (.cells row1 54) = W1 := hW1.symm
  rw [hW1'] at hrun
  have hb1' : Below w.heap.size w W1 := by
    rw [← hW1']
    exact Below.alloc (Below.drew (Below.refl _ w)) (Nat.le_refl _) _
  have hN1 : W1.heap[w.heap.size]? = some (.cells row1 54 (0, 0)) := by
    rw [← hW1']
    exact Array.getElem?_push_size
  have hne : g ≠ w.heap.size := by
    have := (Array.getElem?_eq_some_iff.1 hg).1; omega
  have hne2 : g2 ≠ w.heap.size := by
    have := (Array.getElem?_eq_some_iff.1 hg2).1; omega
  have hg1 : W1.heap[g]? = some (.cells cur 54 (0, 0)) := by
    rw [hb1'.block g (Array.getElem?_eq_some_iff.1 hg).1]; exact hg
  have hg21 : W1.heap[g2]? = some (.cells cur2 54 (0, 0)) := by
    rw [hb1'.block g2 (Array.getElem?_eq_some_iff.1 hg2).1]; exact hg2
  -- the second copy
  obtain ⟨row2, hrow2⟩ : ∃ row2 : Array Value, row2 = (row1.toList.take (i * 4) ++ ys ++ row1.toList.drop (i * 4 + ys.length)).toArray := ⟨_, rfl⟩
  have hcp1 : ∀ ty dc, (Builtin.copy_ #[24, 24] ty #[.slice (some ⟨w.heap.size, i * 4, none⟩) (n + m - i) dc, .slice (some ⟨g2, 0, none⟩) m vc]).run Try.prog W1 = .ok (goInt ((m : Nat) : Int)) (W1.setRow w.heap.size row2) := fun ty dc => by
    have hmin : Nat.min m (n + m - i) = m := by simp only [Nat.min_def]; split <;> omega
    have := run_copy_rowK (P := Try.prog) W1 24 24 ty 54 4 w.heap.size (i * 4) (n + m - i) dc ⟨g2, 0, none⟩ m vc row1 54 ys t24 hs54 hN1
      (by rw [hmin, hyl])
      (fun j v hj => by
        rw [Addr.add_lit, cell_of_row W1 _ _ cur2 54 (0, 0) hg21]
        simpa using hys j v hj)
      (by rw [hyl, hr1s]; omega) h1y
    rw [this, hmin, ← hrow2]
  obtain ⟨W2, hW2⟩ : ∃ W2, id (W2 = W1.setRow w.heap.size row2) := ⟨_, rfl⟩
  have hW2' : W1.setRow w.heap.size row2 = W2 := hW2.symm
  rw [hW2'] at hcp1
  have hb2' : Below w.heap.size w W2 := by rw [← hW2']; exact below_setRow hb1' (Nat.le_refl _) _
  have hN2 : W2.heap[w.heap.size]? = some (.cells row2 54 (0, 0)) := by rw [← hW2']; exact setRow_heap _ _ row1 row2 54 (0, 0) hN1
  have hg2' : W2.heap[g]? = some (.cells cur 54 (0, 0)) := by
    rw [hb2'.block g (Array.getElem?_eq_some_iff.1 hg).1]; exact hg
  have hr2s : row2.size = gc * 4 := by
    rw [hrow2]; simp only [List.size_toArray, List.length_append, List.length_take, List.length_drop, Array.length_toList, hr1s, hyl]; omega
  have hr2t : row2.toList.take ((i + m) * 4) = cur.toList.take (i * 4) ++ ys := by
    have hl : (cur.toList.take (i * 4) ++ ys).length = (i + m) * 4 := by rw [List.length_append, List.length_take, Array.length_toList, hcs, hyl]; omega
    rw [hrow2, hr1t]
    simp only []
    rw [List.take_append_of_le_length (by omega), List.take_of_length_le (by omega)]
  -- the third copy
  obtain ⟨row3, hrow3⟩ : ∃ row3 : Array Value, row3 = (row2.toList.take ((i + m) * 4) ++ (cur.toList.take (n * 4)).drop (i * 4) ++ row2.toList.drop ((i + m) * 4 + ((cur.toList.take (n * 4)).drop (i * 4)).length)).toArray := ⟨_, rfl⟩
  have hlen : ((cur.toList.take (n * 4)).drop (i * 4)).length = (n - i) * 4 := by
    rw [List.length_drop, List.length_take, Array.length_toList, hcs]; omega
  have hcp2 : ∀ ty dc sc, (Builtin.copy_ #[24, 24] ty #[.slice (some ⟨w.heap.size, (i + m) * 4, none⟩) (n + m - (i + m)) dc, .slice (some ⟨g, i * 4, none⟩) (n - i) sc]).run Try.prog W2.drew = .ok (goInt ((n - i : Nat) : Int)) (W2.drew.setRow w.heap.size row3) := fun ty dc sc => by
    have hmin : Nat.min (n - i) (n + m - (i + m)) = n - i := by simp only [Nat.min_def]; split <;> omega
    have hgg : W2.drew.heap[g]? = some (.cells cur 54 (0, 0)) := hg2'
    have := run_copy_rowK (P := Try.prog) W2.drew 24 24 ty 54 4 w.heap.size ((i + m) * 4) (n + m - (i + m)) dc ⟨g, i * 4, none⟩ (n - i) sc row2 54 ((cur.toList.take (n * 4)).drop (i * 4)) t24 hs54 hN2
      (by rw [hmin, hlen])
      (fun j v hj => by
        rw [List.getElem?_drop, List.getElem?_take] at hj
        split at hj
        · rw [Addr.add_lit, cell_of_row W2.drew _ _ cur 54 (0, 0) hgg]; simpa using hj
        · cases hj)
      (by rw [hlen, hr2s]; omega) (fun v hv => h1x v (List.mem_of_mem_drop hv))
    rw [this, hmin, ← hrow3]
  obtain ⟨W3, hW3⟩ : ∃ W3, id (W3 = W2.drew.setRow w.heap.size row3) := ⟨_, rfl⟩
  have hW3' : W2.drew.setRow w.heap.size row3 = W3 := hW3.symm
  rw [hW3'] at hcp2
  have hb3' : Below w.heap.size w W3 := by rw [← hW3']; exact below_setRow (Below.drew hb2') (Nat.le_refl _) _
  have hN3 : W3.heap[w.heap.size]? = some (.cells row3 54 (0, 0)) := by rw [← hW3']; exact setRow_heap _ _ row2 row3 54 (0, 0) hN2
  have hr3s : row3.size = gc * 4 := by
    rw [hrow3]; simp only [List.size_toArray, List.length_append, List.length_take, List.length_drop, Array.length_toList, hr2s, hlen, hcs]; omega
  have hr3t : row3.toList.take ((n + m) * 4) = cur.toList.take (i * 4) ++ ys ++ (cur.toList.take (n * 4)).drop (i * 4) := by
    have hl : (cur.toList.take (i * 4) ++ ys ++ (cur.toList.take (n * 4)).drop (i * 4)).length = (n + m) * 4 := by
      rw [List.length_append, hlen, List.length_append, List.length_take, Array.length_toList, hcs, hyl]; omega
    rw [hrow3, hr2t]
    simp only []
    rw [List.take_append_of_le_length (by omega), List.take_of_length_le (by omega)]
  have hb2 : ¬ (gc = i + m) := by omega
  have hb4 : ¬ (cap = i) := by omega
  have hb5 : ¬ (gc = i) := by omega
  clear hW1 hW1' hW2 hW2' hW3 hW3' hrow1 hrow2 hrow3 hold
  go_enter Try.func46, Try.ntmps46
  go_wp2_with (at_builtin; refine Lib.wpList_append_run _ rfl _ _ _ _ rfl _ _ rfl rfl _ _ (hrun _) ?_)
  go_wp2_with (at_builtin; refine wpList_copyI _ rfl _ _ 24 24 rfl _ _ rfl rfl (hcp1 _ _) ?_)
  go_region_law_o (refine step_copyI rfl _ _ 24 24 rfl _ _ (by simp [Act.eval, Act.put]) (by simp [Act.eval, Act.put]) (hcp2 _ (gc - (i + m)) (cap - i)) ?_)
  go_wp2
  go_ret
  exact ⟨gc, row3, rfl, hge, hle, hr3s, hr3t, hN3, hb3'.os, hb3'.tape, hb3'.output, hb3'.size, fun k hk _ => hb3'.block k hk⟩

theorem callable46 : Callable Try.prog 46 := ⟨Try.f46, by kernel_rfl, by kernel_rfl, by kernel_rfl⟩

theorem ins_ok : InsertOK Try.prog 46 54 4 48 := by
  refine ⟨callable46, ?_⟩
  intro w v n xs g2 m vc cur2 ys i hown hg2 hdiff hyl hys hin hm hby h1x h1y
  obtain ⟨inf, hinf, hz, hzs, hzb⟩ : ∃ inf, Try.prog.info? 54 = some inf ∧ inf.zero.isSome = true ∧ inf.size = 4 ∧ inf.bytes = 48 := by
    have h : ((Try.prog.info? 54).map fun i => (i.zero.isSome, i.size, i.bytes)) = some (true, 4, 48) := by kernel_rfl
    cases hq : Try.prog.info? 54 with
    | none => simp [hq] at h
    | some i => simp [hq] at h; exact ⟨i, rfl, h⟩
  obtain ⟨z, hz⟩ := Option.isSome_iff_exists.1 hz
  have hzc : z.cells.size = inf.size := by
    have h : ((Try.prog.info? 54).bind fun i => i.zero.map fun z => z.cells.size) = some 4 := by kernel_rfl
    rw [hzs]; simpa [hinf, hz] using h
  by_cases hie : i = n
  · subst hie
    have hyv : ((Value.slice (some ⟨g2, 0, none⟩) m vc) = .slice none 0 0 ∧ m = 0) ∨ ∃ a c, (Value.slice (some ⟨g2, 0, none⟩) m vc) = .slice (some a) m c ∧ ∀ j u, ys[j]? = some u → w.cell? (a.add j) = some u :=
      .inr ⟨_, _, rfl, fun j u hj => by rw [Addr.add_lit, cell_of_row w _ _ cur2 54 (0, 0) hg2]; simpa using hys j u hj⟩
    have hown' : w.ownsRow 0 54 inf.size v i xs := by rw [hzs]; exact hown
    obtain ⟨v', w', hr, h2, h3, h4⟩ := run_append_own' (P := Try.prog) (w := w) 24 24 54 inf z t24 hinf hz hzc (by omega) v i xs hown' (.slice (some ⟨g2, 0, none⟩) m vc) m ys (by rw [hzs]; exact hyl) hyv h1y (by omega) (by rw [hzb]; exact hby)
    have hrun : ∀ ty, (Builtin.append_ #[24, 24] ty #[v, .slice (some ⟨g2, 0, none⟩) m vc]).run Try.prog w = .ok v' w' := fun ty => by
      have : Builtin.append_ #[24, 24] ty = Builtin.append_ #[24, 24] 24 := by funext x; simp [Builtin.append_]
      rw [this]; exact hr
    rw [hzs] at h2
    have hlx : xs.take (i * 4) = xs := List.take_of_length_le (by rw [hown.1]; exact Nat.le_refl _)
    have hlx2 : xs.drop (i * 4) = [] := List.drop_of_length_le (by rw [hown.1]; exact Nat.le_refl _)
    rw [hlx, hlx2, List.append_nil]
    rcases hown.2 with ⟨rfl, rfl⟩ | ⟨g, cap, cur, rfl, _, hg, hnc, hcm, hcs, htk⟩
    · refine (ins_end_nil w g2 m vc hm hrun).mono ?_
      rintro x w2 ⟨rfl, rfl⟩
      exact ⟨v', rfl, h2, h3, h4⟩
    · refine (ins_end_row w g g2 i cap m vc hm hnc (by simpa [maxLen] using hcm) hrun).mono ?_
      rintro x w2 ⟨rfl, rfl⟩
      exact ⟨v', rfl, h2, h3, h4⟩
  · have hlt : i < n := by omega
    rcases hown.2 with ⟨rfl, rfl⟩ | ⟨g, cap, cur, rfl, _, hg, hnc, hcm, hcs, htk⟩
    · omega
    have hne : g2 ≠ g := fun he => hdiff (by rw [he]; rfl)
    have hcm' : cap ≤ 9223372036854775807 := by simpa [maxLen] using hcm
    have hxi : xs.take (i * 4) = cur.toList.take (i * 4) := by rw [← htk, List.take_take, Nat.min_eq_left (by omega)]
    by_cases hroom : n + m ≤ cap
    · refine (ins_shift w g g2 n cap i m vc cur cur2 ys hlt hm hroom hcm' hne hg hg2 hcs hyl hys (by rw [htk]; exact h1x) h1y).mono ?_
      rintro x w2 ⟨rfl, c1, hc1, rfl⟩
      have hc1l : c1.size = cap * 4 := by
        rw [hc1]
        simp only [List.size_toArray, List.length_append, List.length_take, List.length_drop, Array.length_toList, hcs]
        omega
      have hgd : w.drew.heap[g]? = some (.cells cur 54 (0, 0)) := hg
      refine ⟨_, rfl, ⟨?_, .inr ⟨g, cap, _, rfl, Nat.zero_le _, setRow_heap _ g cur _ 54 (0, 0) hgd, hroom, hcm, ?_, ?_⟩⟩, ?_, fun k hk => .inl hk⟩
      · have := hown.1
        simp only [List.length_append, List.length_take, List.length_drop, hyl, this]
        omega
      · simp only [List.size_toArray, List.length_append, List.length_take, List.length_drop, Array.length_toList, hc1l, hyl]
        omega
      · have ht1 : c1.toList.take (i * 4) = xs.take (i * 4) := by
          rw [hc1]
          simp only [List.append_assoc]
          rw [List.take_append_of_le_length (by rw [List.length_take, Array.length_toList, hcs]; omega), List.take_take, Nat.min_eq_left (by omega), hxi]
        have ht2 : (c1.toList.drop ((i + m) * 4)).take ((n - i) * 4) = xs.drop (i * 4) := by
          have hl1 : (cur.toList.take ((i + m) * 4)).length = (i + m) * 4 := by rw [List.length_take, Array.length_toList, hcs]; omega
          have hl2 : (xs.drop (i * 4)).length = (n - i) * 4 := by rw [List.length_drop, hown.1]; omega
          rw [hc1]
          simp only [List.append_assoc]
          rw [List.drop_append_of_le_length (by omega), List.drop_of_length_le (by omega), List.nil_append, htk, List.take_append_of_le_length (by omega), List.take_of_length_le (by omega)]
        have hl3 : (xs.take (i * 4) ++ ys).length = (i + m) * 4 := by rw [List.length_append, List.length_take, hown.1, hyl]; omega
        simp only []
        rw [ht1, show (n + m) * 4 = (xs.take (i * 4) ++ ys).length + (n - i) * 4 by rw [hl3]; omega, List.take_length_add_append, ht2]
      · show w.grownBy _ (some g)
        exact Go.Lib.grownBy_trans (w := w.drew) ⟨rfl, rfl, rfl, Nat.le_refl _, fun _ _ _ => rfl⟩ (grownBy_setRow w.drew g _)
    · refine (ins_grow w g g2 n cap i m vc cur cur2 ys hlt hm hnc (by omega) hcm' hby hg hg2 hcs hyl hys (by rw [htk]; exact h1x) h1y).mono ?_
      rintro x w2 ⟨gc, row, rfl, hge, hle, hrs, hrt, hh, hgr⟩
      refine ⟨_, rfl, ⟨?_, .inr ⟨_, gc, row, rfl, Nat.zero_le _, hh, hge, hle, hrs, ?_⟩⟩, ?_, fun k hk => ?_⟩
      · have := hown.1
        simp only [List.length_append, List.length_take, List.length_drop, hyl, this]
        omega
      · rw [hrt, htk, hxi]
      · exact ⟨hgr.os, hgr.tape, hgr.output, hgr.size, fun k hk _ => hgr.block k hk (by simp)⟩
      · simp only [Value.ownBlock, Option.some.injEq] at hk
        exact .inr (by omega)
end Go.Proofs.Ytpkbecaailhhmaa
