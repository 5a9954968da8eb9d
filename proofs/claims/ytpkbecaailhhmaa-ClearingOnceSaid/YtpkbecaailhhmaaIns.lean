/-
  slices.Insert at holds, walked at the machine's level: what a call with an own row and another own row makes. Conditions: those of each theorem.
-/
import Derived.Test.YtpkbecaailhhmaaRows
import Derived.Test.YtpkbecaailhhmaaDLu
import Derived.Lib.Walk
import Derived.Lib.SliceRun
import Derived.Lib.AppendZeros
import Derived.Laws.Externs
import Derived.Shelf.RegionOpenPlain
namespace Go.Proofs.Ytpkbecaailhhmaa
open Go.DL Go.RowKit Go.Lib
set_option maxRecDepth 100000
set_option linter.unusedVariables false
set_option linter.unusedSimpArgs false

theorem t3 : Try.prog.underlying 3 = some (TypeDesc.int IntKind.i64) := by kernel_rfl
theorem t4 : Try.prog.underlying 4 = some TypeDesc.bool := by kernel_rfl
theorem t24 : Try.prog.underlying 24 = some (TypeDesc.slice 54) := by kernel_rfl
theorem i54 : (Try.prog.info? 54).map (fun i => (i.size, i.bytes)) = some (4, 48) := by kernel_rfl
theorem mixed : Try.prog.follows .mixedOrders = true := by kernel_rfl
theorem sz54 (w : World) : (Go.sizeOf 54).run Try.prog w = .ok 4 w := by
  have := i54
  cases h : Try.prog.info? 54 with
  | none => rw [h] at this; cases this
  | some i => rw [h] at this; simp at this; simp [sizeOf, typeInfo, h, this.1]
theorem agg3 (w : World) : (isAgg 3).run Try.prog w = .ok false w := by unfold isAgg; rw [Sem.run_bind, run_underlying t3 w]; rfl
theorem agg4 (w : World) : (isAgg 4).run Try.prog w = .ok false w := by unfold isAgg; rw [Sem.run_bind, run_underlying t4 w]; rfl
theorem agg24 (w : World) : (isAgg 24).run Try.prog w = .ok false w := by unfold isAgg; rw [Sem.run_bind, run_underlying t24 w]; rfl

theorem step_copyI {P : Program} {ops : Array Oper} {o : Oper} {a : Act} {w : World} {K : Act → World → Prop} {Q : Exit → Act → World → Prop} {E : Prop}
    (hg : o.guard = none) (d x : Operand) (dT sT : TypeId) (hop : o.op = Op.call { callee := Callee.builtin Builtin.copy, args := #[d, x], argTypes := #[dT, sT] })
    (v u : Value) (hd : a.eval d = v) (hx : a.eval x = u) {v' : Value} {w' : World} (hr : (Builtin.copy_ #[dT, sT] o.type #[v, u]).run P w = .ok v' w') (hK : K (a.put o.dst v') w') :
    if Region.wanted o (yielded ops a.tmps) = true then Oper.wp P o a w K Q else E := by
  rw [if_pos (by simp [Region.wanted, hg])]
  unfold Oper.wp
  simp [execOp, hop, resolve, invoke, builtin, hd, hx, hr]
  exact hK

theorem wpList_copyI {P : Program} (w : World) {ops : Array Oper} {rest : List Oper} {o : Oper} {a : Act} {Q : Exit → Act → World → Prop} (hgd : o.guard = none) (d s : Operand) (t t' : TypeId)
    (ho : o.op = .call { callee := .builtin .copy, args := #[d, s], argTypes := #[t, t'] }) (v u : Value) (hd : a.eval d = v) (hs : a.eval s = u) {v' : Value} {w' : World}
    (hr : (Builtin.copy_ #[t, t'] o.type #[v, u]).run P w = .ok v' w') (h : wpList P ops Q rest (a.put o.dst v') w') : wpList P ops Q (o :: rest) a w :=
  wpList_plain hgd fun _ hK => by
    have := step_copyI (P := P) (ops := ops) (Q := Q) (E := True) hgd d s t t' ho v u hd hs hr (hK _ _ h)
    rwa [if_pos (by simp [Region.wanted, hgd])] at this

set_option maxHeartbeats 4000000 in
/-- In place: there is room, and the place lies before the end. -/
theorem ins_shift (w : World) (g g2 n cap i m vc : Nat) (cur cur2 : Array Value) (ys : List Value) (hi : i < n) (hm : 0 < m) (hroom : n + m ≤ cap) (hcap : cap ≤ 9223372036854775807) (hne : g2 ≠ g)
    (hg : w.heap[g]? = some (.cells cur 54 (0, 0))) (hg2 : w.heap[g2]? = some (.cells cur2 54 (0, 0))) (hcs : cur.size = cap * 4) (hyl : ys.length = m * 4)
    (hys : ∀ (j : Nat) (v : Value), ys[j]? = some v → cur2[j]? = some v) (h1x : ∀ v ∈ cur.toList.take (n * 4), v.oneCell' = true) (h1y : ∀ v ∈ ys, v.oneCell' = true) :
    Calls Try.prog 46 #[.slice (some ⟨g, 0, none⟩) n cap, .int .i64 i, .slice (some ⟨g2, 0, none⟩) m vc] w fun e w' =>
      e = .returned (.slice (some ⟨g, 0, none⟩) (n + m) cap) ∧ ∃ c1 : Array Value, c1 = (cur.toList.take ((i + m) * 4) ++ (cur.toList.take (n * 4)).drop (i * 4) ++ cur.toList.drop ((n + m) * 4)).toArray ∧
        w' = w.drew.setRow g (c1.toList.take (i * 4) ++ ys ++ c1.toList.drop ((i + m) * 4)).toArray := by
  have u3 := run_underlying (P := Try.prog) t3; have u4 := run_underlying (P := Try.prog) t4; have u24 := run_underlying (P := Try.prog) t24
  have t3 := t3; have t4 := t4; have t24 := t24; have mixed := mixed
  have a3 := agg3; have a4 := agg4; have a24 := agg24; have z54 := sz54
  have hz1 : ¬ ((m : Int) = 0) := by omega
  have hz2 : ¬ ((i : Int) = (n : Int)) := by omega
  have hw1 : IntKind.i64.wrap ((i : Int) + (m : Int)) = (i : Int) + (m : Int) := by rw [IntKind.wrap_i64]; omega
  have hw2 : IntKind.i64.wrap ((n : Int) + (m : Int)) = (n : Int) + (m : Int) := by rw [IntKind.wrap_i64]; omega
  have hb1 : (0 : Int) ≤ (i : Int) + (m : Int) := by omega
  have hin : i ≤ n := by omega
  have htn : ((i : Int) + (m : Int)).toNat = i + m := by omega
  have htn2 : ((n : Int) + (m : Int)).toNat = n + m := by omega
  have hb2 : ¬ (cap = i + m) := by omega
  have hb4 : ¬ (cap = i) := by omega
  have hb3 : (i : Int) ≤ (n : Int) + (m : Int) := by omega
  have hsa : w.shape? g2 = some (54, cur2.size) := by simp [World.shape?, hg2]
  have hsb : w.shape? g = some (54, cur.size) := by simp [World.shape?, hg]
  have hfa : w.frozen? ⟨g2, 0, none⟩ = false := by simp [World.frozen?, hg2]
  have hfe : w.frozen? ⟨g2, cur2.size, none⟩ = false := by simp [World.frozen?, hg2]
  have hov : ∀ lb cb, (callFunc 61 #[.slice (some ⟨g2, 0, none⟩) m vc, .slice (some ⟨g, (i + m) * 4, none⟩) lb cb]).run Try.prog w = .ok (.value (.bool false)) w := fun lb cb => by
    rw [run_callFunc_extern Try.func61 (by kernel_rfl) (by kernel_rfl) (by kernel_rfl) (e := Extern.SlicesOverlaps.overlaps #[24, 24] #[4]) (by kernel_rfl),
      Lib.run_overlaps_apart w 24 4 54 t24 4 sz54 ⟨g2, 0, none⟩ ⟨g, (i + m) * 4, none⟩ m vc lb cb hne 54 54 cur2.size cur.size hsa hsb (by omega) hfa hfe]
    rfl
  obtain ⟨c1, hc1⟩ : ∃ c1 : Array Value, id (c1 = (cur.toList.take ((i + m) * 4) ++ (cur.toList.take (n * 4)).drop (i * 4) ++ cur.toList.drop ((n + m) * 4)).toArray) := ⟨_, rfl⟩
  have hs54 : (Try.prog.info? 54).map (·.size) = some 4 := by kernel_rfl
  have hgd : w.drew.heap[g]? = some (.cells cur 54 (0, 0)) := hg
  have hg2d : w.drew.heap[g2]? = some (.cells cur2 54 (0, 0)) := hg2
  have hcp1 : ∀ ty dc sc, (Builtin.copy_ #[24, 24] ty #[.slice (some ⟨g, (i + m) * 4, none⟩) (n + m - (i + m)) dc, .slice (some ⟨g, i * 4, none⟩) (n + m - i) sc]).run Try.prog w.drew = .ok (goInt ((n - i : Nat) : Int)) (w.drew.setRow g c1) := fun ty dc sc => by
    have hlen : ((cur.toList.take (n * 4)).drop (i * 4)).length = (n - i) * 4 := by
      rw [List.length_drop, List.length_take, Array.length_toList, hcs]; omega
    have hmin : Nat.min (n + m - i) (n + m - (i + m)) = n - i := by simp only [Nat.min_def]; split <;> omega
    have := run_copy_rowK (P := Try.prog) w.drew 24 24 ty 54 4 g ((i + m) * 4) (n + m - (i + m)) dc ⟨g, i * 4, none⟩ (n + m - i) sc cur 54 ((cur.toList.take (n * 4)).drop (i * 4)) t24 hs54 hgd
      (by rw [hmin, hlen])
      (fun j v hj => by
        rw [List.getElem?_drop, List.getElem?_take] at hj
        split at hj
        · rw [Addr.add_lit, cell_of_row w.drew _ _ cur 54 (0, 0) hgd]; simpa using hj
        · cases hj)
      (by rw [hlen, hcs]; omega) (fun v hv => h1x v (List.mem_of_mem_drop hv))
    rw [this, hmin, hlen, show (i + m) * 4 + (n - i) * 4 = (n + m) * 4 by omega, hc1]
  have hcp2 : ∀ ty dc, (Builtin.copy_ #[24, 24] ty #[.slice (some ⟨g, i * 4, none⟩) (n + m - i) dc, .slice (some ⟨g2, 0, none⟩) m vc]).run Try.prog (w.drew.setRow g c1) = .ok (goInt ((m : Nat) : Int)) (w.drew.setRow g (c1.toList.take (i * 4) ++ ys ++ c1.toList.drop ((i + m) * 4)).toArray) := fun ty dc => by
    have hc1l : c1.size = cap * 4 := by
      rw [hc1]
      simp only [List.size_toArray, List.length_append, List.length_take, List.length_drop, Array.length_toList, hcs]
      omega
    have hmin : Nat.min m (n + m - i) = m := by simp only [Nat.min_def]; split <;> omega
    have := run_copy_rowK (P := Try.prog) (w.drew.setRow g c1) 24 24 ty 54 4 g (i * 4) (n + m - i) dc ⟨g2, 0, none⟩ m vc c1 54 ys t24 hs54 (setRow_heap _ g cur c1 54 (0, 0) hgd)
      (by rw [hmin, hyl])
      (fun j v hj => by
        rw [Addr.add_lit, cell_setRow_other _ _ _ _ hne, cell_of_row w.drew _ _ cur2 54 (0, 0) hg2d]
        simpa using hys j v hj)
      (by rw [hyl, hc1l]; omega) h1y
    rw [this, hmin, setRow_setRow, hyl, show i * 4 + m * 4 = (i + m) * 4 by omega]
  go_enter Try.func46, Try.ntmps46
  go_wp2_with (simp only [hov])
  go_region_law_o (refine step_copyI rfl _ _ 24 24 rfl _ _ (by simp [Act.eval, Act.put]) (by simp [Act.eval, Act.put]) (hcp1 _ _ _) ?_)
  go_wp2_with (at_builtin; refine wpList_copyI _ rfl _ _ 24 24 rfl _ _ rfl rfl (hcp2 _ _) ?_)
  go_ret
  exact ⟨rfl, c1, hc1, by rw [List.append_assoc]⟩
end Go.Proofs.Ytpkbecaailhhmaa
