/-
  Texts that belong together, one behind the other; what each of them proves, and under which conditions, its own heading says.
-/
import Derived.StillTail
import Derived.Laws.CopyRow
import Derived.Lib.Overlaps
import Derived.ProofKit
import Derived.Handed
import Derived.SizedLaws
import Derived.Deep.Slices
import Derived.RangeFuncNested
import Derived.Maps.OwnSet
import Derived.Lib.SlKeysI
import Derived.ArgAppend
import Derived.Shelf.SortM.Plain
import Derived.Shelf.SortM.SortNone
import Derived.Test.YtoiiblkncbnlaaaMa
/-
  The data-level framework, part m: regions in the order of the text, at the data level. Generic in the program; no condition.
-/
set_option linter.unusedVariables false
set_option linter.unusedSimpArgs false
namespace Go.DL
open Go.RowKit
section
variable {P : Program} {w : World} {A : Nat → Prop} {M : BMap}

/-- What a step of the state shows of an operation. -/
def EStep (P : Program) (o : Oper) (E : Env) (w : World) (a : Act) (s' : DS) : Prop :=
  ∀ (K : Act → World → Prop) (Q : Exit → Act → World → Prop), (∀ v w' M', St E M' w' (a.put o.dst v) s' → K (a.put o.dst v) w') → o.wp P a w K Q

theorem EStep.of_run {E : Env} {a : Act} {o : Oper} {s' : DS} {v : Value} {w' : World} {M' : BMap} (hr : (execOp a.eval o).run P w = .ok (.value v) w') (h : St E M' w' (a.put o.dst v) s') : EStep P o E w a s' := by
  intro K Q hK
  unfold Oper.wp
  rw [hr, Oper.upon_value]
  exact hK v w' M' h

theorem var_box {E : Env} {a : Act} {s : DS} (h : St E M w a s) {id : Nat} (hbase : E.base ≤ id) {arr : Array Value} {T : TypeId} {cs : List C}
    (hc : ∀ A', Keeps w (Av E.A0 M s.bx) (w.alloc (.cells arr T)) A' → cellsRel (w.alloc (.cells arr T)) A' (M.upd id w.heap.size undef 0) cs arr) :
    St E (M.upd id w.heap.size undef 0) (w.alloc (.cells arr T)) a ((s.drop id).push id (.var cs)) := by
  refine h.alloc id hbase arr T (.var cs) undef 0 (fun k hk => by simpa [boxBlk, BMap.upd] using hk.symm) fun A' hA' => ?_
  exact ⟨arr, T, by simp only [BMap.upd, if_true]; exact heap_alloc_new w _, hc A' hA'⟩

theorem row_box {E : Env} {a : Act} {s : DS} (h : St E M w a s) {id : Nat} (hbase : E.base ≤ id) {arr : Array Value} {e : TypeId} {sz n cap : Nat} {es : List D} (hsz : arr.size = cap * sz) (hn : es.length = n) (hcap : n ≤ cap) (hmax : cap ≤ maxLen) (hu : ∀ d ∈ es, d.cells.length = sz)
    (hc : ∀ A', Keeps w (Av E.A0 M s.bx) (w.alloc (.cells arr e)) A' → ∀ (j : Nat) (c : D), (flat es)[j]? = some c → ∃ v, arr[j]? = some v ∧ RelD (w.alloc (.cells arr e)) A' c v) :
    St E (M.upd id w.heap.size (.slice (some ⟨w.heap.size, 0, none⟩) n cap) sz) (w.alloc (.cells arr e)) a ((s.drop id).push id (.row e sz es)) := by
  refine h.alloc id hbase arr e (.row e sz es) _ sz (fun k hk => by simpa [boxBlk, BMap.upd, Value.ownBlock] using hk.symm) fun A' hA' => ?_
  subst hn
  have hle : es.length * sz ≤ cap * sz := Nat.mul_le_mul_right _ hcap
  refine ⟨arr.toList.take (es.length * sz), ⟨by simp [hsz, Nat.min_eq_left hcap], .inr ⟨w.heap.size, cap, arr, by simp [BMap.upd], Nat.zero_le _, heap_alloc_new w _, hcap, hmax, hsz, rfl⟩⟩, hu, by simp [BMap.upd], fun j c hj => ?_, ?_⟩
  · obtain ⟨v, hv, hr⟩ := hc A' hA' j c hj
    have hlt := (List.getElem?_eq_some_iff.1 hj).1
    rw [flat_length es hu] at hlt
    exact ⟨v, by rw [List.getElem?_take, if_pos hlt]; simpa using hv, hr⟩
  · intro k hk
    simp only [BMap.upd, if_true, Value.ownBlock, Option.some.injEq] at hk ⊢
    exact hk.symm

theorem zeroD_spec {e : TypeId} {d : D} (h : zeroD P e = some d) : ∃ i z, P.info? e = some i ∧ i.zero = some z ∧ z.cells.size = i.size ∧ d.cells.length = i.size ∧ ∀ (j : Nat) (c : D), d.cells[j]? = some c → ∃ u, z.cells[j]? = some u ∧ RelD w A c u := by
  unfold zeroD at h
  split at h
  · rename_i i hi
    split at h
    · rename_i z hz
      split at h
      · rename_i ds dd hsz hds hu
        have hsz' : i.size = z.cells.size := by simpa using hsz
        have hmap := allDat_map _ _ hds
        have hlen : ds.length = z.cells.size := by
          have := congrArg List.length hmap
          simpa using this.symm
        have hrel : ∀ (j : Nat) (c : D), ds[j]? = some c → ∃ u, z.cells[j]? = some u ∧ RelD w A c u := by
          intro j c hj
          have h1 : (z.cells.toList.map ofConstCell)[j]? = some (.dat c) := by rw [hmap, List.getElem?_map, hj]; rfl
          simp only [List.getElem?_map, Option.map_eq_some_iff] at h1
          obtain ⟨u, hu, hc⟩ := h1
          refine ⟨u, by simpa using hu, ?_⟩
          have := ofConstCell_rel (w := w) (A := A) (M := ⟨fun _ => 0, fun _ => undef, fun _ => 0⟩) u
          rw [hc] at this
          exact this
        split at h
        · cases h
          exact ⟨i, z, hi, hz, hsz'.symm, by simp [D.cells, hlen, hsz'], hrel⟩
        · split at h
          · rename_i x
            split at h
            · rename_i hx
              cases h
              have hxc : d.cells = [d] := by cases d <;> first | rfl | (simp [D.one] at hx)
              refine ⟨i, z, hi, hz, hsz'.symm, by rw [hxc, hsz', ← hlen], ?_⟩
              rw [hxc]
              exact hrel
            · cases h
          · cases h
      · cases h
    · cases h
  · cases h

theorem eClear_sound {E : Env} {a : Act} {s s' : DS} {o : Oper} {t : TypeId} {x : Operand} {h : Option D} {side : Prop} (hop : o.op = .call { callee := .builtin .clear, args := #[x], argTypes := #[t] })
    (he : eClear P s o.dst t (s.ev x) h = some (side, s')) (hs : side) (hst : St E M w a s) :
    ∀ (K : Act → World → Prop) (Q : Exit → Act → World → Prop), (∀ v w' M', St E M' w' (a.put o.dst v) s' → K (a.put o.dst v) w') → o.wp P a w K Q := by
  intro K Q hK
  have hx := ev_rel hst.size hst.slots x
  unfold eClear at he
  split at he
  · rename_i e0 id lo n e sz es k es' hu hdst
    split at he
    · rename_i ie z hie hz
      split at he
      · rename_i hsz
        simp only [Option.some.injEq, Prod.mk.injEq] at he
        obtain ⟨h1, rfl⟩ := he
        rw [← h1] at hs
        obtain ⟨hle, rfl⟩ := hs
        rw [Bool.and_eq_true] at hsz
        have hzone := List.all_eq_true.1 hsz.2
        have hsz' : ie.size = sz := by simpa using hsz.1
        subst hsz'
        obtain ⟨hl, ad, cap, hvx, had⟩ := dstPart_rel hst.boxes.ok hdst hx
        have fin : ∀ (w' : World) (s1 : DS), (Builtin.clear_ #[t] o.type #[a.eval x]).run P w = .ok (.tuple #[]) w' → St E M w' a s1 → s1 = s.setBox id (.row e ie.size (es.take lo ++ List.replicate n z ++ es.drop (lo + n))) → o.wp P a w K Q := by
          intro w' s1 hr hst' hss
          subst hss
          unfold Oper.wp
          rw [run_builtin hop]
          simp only [builtin, Sem.run_bind, List.map_toArray, List.map_cons, List.map_nil, hr, Result.andThen_ok, Sem.run_pure, Oper.upon_value]
          exact hK _ w' M (hst'.put o.dst trivial)
        obtain ⟨i, zv, hi, hzv, hzs, hzl, hzr⟩ := zeroD_spec (w := w) (A := Av E.A0 M s.bx) hz
        rw [hie] at hi
        cases hi
        by_cases h0 : n = 0
        · subst h0
          refine fin w _ ?_ (hst.same_box hl) (by simp)
          rw [hvx]
          cases ad <;> simp [Builtin.clear_, run_underlying hu]
        · rcases had with rfl | h3
          · have hcl : (madeCells zv.cells (n * ie.size)).toList.length = n * ie.size := by simp [size_madeCells]
            obtain ⟨cap2, cur, t2, hrv, hcap2, hMsz, hg, hfit, hst2⟩ := seg_box (w := w) hst hl (lo := lo) (ys := List.replicate n z) (by rw [List.length_replicate]; omega) (by rw [List.length_replicate]; omega) (fun d hd => by rw [List.eq_of_mem_replicate hd]; exact hzl)
              (cs := (madeCells zv.cells (n * ie.size)).toList) (by rw [List.length_replicate, hcl]) (fun j c hj => by
                obtain ⟨hjlt, hjc⟩ := rep_get hzl _ _ _ hj
                obtain ⟨u, hu', hr'⟩ := hzr _ c hjc
                refine ⟨u, ?_, hr'⟩
                rw [← hzs] at hu'
                have hlt := (Array.getElem?_eq_some_iff.1 hu').1
                have hget : zv.cells[j % zv.cells.size]! = u := by
                  rw [getElem!_pos zv.cells _ hlt]
                  exact (Array.getElem?_eq_some_iff.1 hu').2
                simp only [madeCells, Array.getElem?_toList, Array.getElem?_map, Array.getElem?_range, if_pos hjlt, Option.map_some, hget])
            rw [List.length_replicate] at hst2
            refine fin _ _ ?_ hst2 rfl
            rw [hvx]
            have hone : ∀ v ∈ (madeCells zv.cells (n * ie.size)).toList, v.oneCell' = true := by
              intro v hv
              simp only [madeCells, Array.mem_toList_iff, Array.mem_map, Array.mem_range] at hv
              obtain ⟨j, hj, rfl⟩ := hv
              have hpos : 0 < ie.size := by rcases Nat.eq_zero_or_pos ie.size with h9 | h9; rw [h9] at hj; omega; exact h9
              have hlt : j % zv.cells.size < zv.cells.size := Nat.mod_lt _ (by rw [hzs]; exact hpos)
              obtain ⟨c, hc⟩ : ∃ c, z.cells[j % zv.cells.size]? = some c := ⟨_, List.getElem?_eq_getElem (by rw [hzl, ← hzs]; exact hlt)⟩
              obtain ⟨u, hu', hr'⟩ := hzr _ c hc
              rw [getElem!_pos zv.cells _ hlt, (Array.getElem?_eq_some_iff.1 hu').2]
              exact RelD.one hr' (hzone c (List.mem_of_getElem? hc))
            have hstore := run_storeCells_at P (M.blk id) (lo * ie.size) t2 (madeCells zv.cells (n * ie.size)).toList 0 cur w hg (by simpa using hfit) hone
            simp only [Nat.add_zero] at hstore
            obtain ⟨n', rfl⟩ : ∃ n', n = n' + 1 := ⟨n - 1, by omega⟩
            have hzc : Builtin.zeroCells zv.cells (n' + 1) = madeCells zv.cells ((n' + 1) * ie.size) := by
              simp only [Builtin.zeroCells, madeCells, hzs]
            simp [Builtin.clear_, run_underlying hu, zeroValue, typeInfo, hie, hzv, hzc, hstore]
          · omega
      · cases he
    · cases he
  · cases he

theorem flat_rep_get {d : D} {sz : Nat} (hd : d.cells.length = sz) : ∀ (n j : Nat) (c : D), (flat (List.replicate n d))[j]? = some c → j < n * sz ∧ d.cells[j % sz]? = some c
  | 0, j, c, h => by simp [flat] at h
  | n + 1, j, c, h => by
    rw [List.replicate_succ, flat_cons, List.getElem?_append, hd] at h
    split at h
    · rename_i hlt
      rw [Nat.mod_eq_of_lt hlt]
      exact ⟨by rw [Nat.add_mul]; omega, h⟩
    · rename_i hge
      have hge' : sz ≤ j := Nat.le_of_not_lt hge
      obtain ⟨h1, h2⟩ := flat_rep_get hd n (j - sz) c h
      refine ⟨by rw [Nat.add_mul]; omega, ?_⟩
      rw [Nat.mod_eq_sub_mod hge']
      exact h2

theorem estep_sound {E : Env} {a : Act} {s s' : DS} {o : Oper} {h : Option D} {side : Prop} {base : Nat} (he : estep P base o s h = some (side, s')) (hs : side) (hst : St E M w a s) (hb : E.base = base) : EStep P o E w a s' := by
  unfold estep at he
  split at he
  · rename_i t d hop hd
    split at he
    · rename_i cs hz
      simp only [Option.some.injEq, Prod.mk.injEq] at he
      obtain ⟨_, rfl⟩ := he
      obtain ⟨i, z, hi, hzv, _⟩ := zeroC_rel (w := w) (A := fun _ => True) (M := M) hz
      have hr : (execOp a.eval o).run P w = .ok (.value (.pointer (some ⟨w.heap.size, 0, none⟩))) (w.alloc (.cells z.cells t)) := by
        simp [execOp, hop, Instr.alloc, zeroValue, typeInfo, hi, hzv, newVar, newRow]
      refine EStep.of_run (M' := M.upd (base + d) w.heap.size undef 0) hr ?_
      rw [hd]
      refine St.put ?_ (some d) (by simp [LV.rel, C.rel, BMap.upd])
      refine var_box hst (by omega) fun A' hA' => ?_
      obtain ⟨i2, z2, hi2, hzv2, hcr⟩ := zeroC_rel (w := w.alloc (.cells z.cells t)) (A := A') (M := M.upd (base + d) w.heap.size undef 0) hz
      rw [hi] at hi2
      cases hi2
      rw [hzv] at hzv2
      cases hzv2
      exact hcr
    · cases he
  · rename_i t x d hop hd
    split at he
    · rename_i cs hcs
      simp only [Option.some.injEq, Prod.mk.injEq] at he
      obtain ⟨_, rfl⟩ := he
      have hx := ev_rel hst.size hst.slots x
      have hc := LV.cs_rel hst.boxes.ok hcs hx
      have hr : (execOp a.eval o).run P w = .ok (.value (.pointer (some ⟨w.heap.size, 0, none⟩))) (w.alloc (.cells (a.eval x).cells t)) := by
        simp [execOp, hop, Instr.box, newVar, newRow]
      refine EStep.of_run (M' := M.upd (base + d) w.heap.size undef 0) hr ?_
      rw [hd]
      refine St.put ?_ (some d) (by simp [LV.rel, C.rel, BMap.upd])
      exact var_box hst (by omega) fun A' hA' => cells_scrub (hc.mono hA')
    · cases he
  · rename_i t x y hop hd
    exact eStore_sound hop hd he hs hst
  · rename_i t len parts d hop hd
    simp only [Option.map_eq_some_iff, Prod.mk.injEq] at he
    obtain ⟨⟨side', e, sz, ds⟩, h1, h2, rfl⟩ := he
    simp only at h2
    rw [← h2] at hs
    have hslots := ev_rel hst.size hst.slots
    obtain ⟨arr, h3, h4, h5, h6, h8, _, _, h7⟩ := sliceLit_sound (P := P) (A := Av E.A0 M s.bx) (M := M) hst.boxes.ok h1 hs (parts.map fun p => (p.1, a.eval p.2)) (by simp) (by
      intro j p hj
      simp only [List.getElem?_map, Option.map_eq_some_iff, Array.getElem?_toList] at hj
      obtain ⟨q, hq, rfl⟩ := hj
      exact ⟨a.eval q.2, by simp [hq], hslots q.2⟩)
    have hr : (execOp a.eval o).run P w = .ok (.value (.slice (some ⟨w.heap.size, 0, none⟩) len len)) (w.alloc (.cells arr e)) := by
      simp [execOp, hop, h3]
    have hlen : len ≤ maxLen := by simp only [maxLen]; omega
    refine EStep.of_run (M' := M.upd (base + d) w.heap.size (.slice (some ⟨w.heap.size, 0, none⟩) len len) sz) hr ?_
    rw [hd]
    refine St.put ?_ (some d) (by simp [LV.rel, C.rel, BMap.upd])
    exact row_box hst (by omega) h4 h5 (Nat.le_refl _) hlen h6 fun A' hA' j c hj => let ⟨v, hv, hr⟩ := h7 j c hj; ⟨v, hv, hr.mono hA'⟩
  · rename_i t l c d hop hd
    unfold eMake at he
    split at he
    · rename_i e kl n kc m hu hl hc
      split at he
      · rename_i ie z hie hz
        simp only [Option.some.injEq, Prod.mk.injEq] at he
        obtain ⟨h1, rfl⟩ := he
        rw [← h1] at hs
        obtain ⟨hn0, hnm, hbytes, hm⟩ := hs
        obtain ⟨i, zv, hi, hzv, hzs, hzl, _⟩ := zeroD_spec (w := w) (A := fun _ => True) hz
        rw [hie] at hi
        cases hi
        have hle := ev_rel hst.size hst.slots l
        have hce := ev_rel hst.size hst.slots c
        rw [hl] at hle
        rw [hc] at hce
        simp only [LV.rel, C.rel] at hle hce
        have e1 := relD_int hle
        have e2 := relD_int hce
        have hr0 := run_make (P := P) w t e ie zv hu hie hzv kl kc n m hn0 hnm (by omega) (by omega)
        have hr : (execOp a.eval o).run P w = .ok (.value (.slice (some ⟨w.heap.size, 0, none⟩) n.toNat m.toNat)) (w.alloc (.cells (madeCells zv.cells (m.toNat * ie.size)) e)) := by
          simp [execOp, hop, e1, e2, hr0]
        refine EStep.of_run (M' := M.upd (base + d) w.heap.size (.slice (some ⟨w.heap.size, 0, none⟩) n.toNat m.toNat) ie.size) hr ?_
        rw [hd]
        refine St.put ?_ (some d) (by simp [LV.rel, C.rel, BMap.upd])
        refine row_box hst (by omega) (size_madeCells _ _) (by simp) (by omega) (by simp only [maxLen]; omega) (fun d' hd' => by rw [List.eq_of_mem_replicate hd']; exact hzl) fun A' hA' j c hj => ?_
        obtain ⟨i2, zv2, hi2, hzv2, _, _, hrel⟩ := zeroD_spec (w := w.alloc (.cells (madeCells zv.cells (m.toNat * ie.size)) e)) (A := A') hz
        rw [hie] at hi2
        cases hi2
        rw [hzv] at hzv2
        cases hzv2
        obtain ⟨hjlt, hjc⟩ := flat_rep_get hzl _ _ _ hj
        obtain ⟨u, hu', hr'⟩ := hrel _ c hjc
        refine ⟨u, ?_, hr'⟩
        have hjm : j < m.toNat * ie.size := Nat.lt_of_lt_of_le hjlt (Nat.mul_le_mul_right _ (by omega))
        rw [← hzs] at hu'
        have hlt := (Array.getElem?_eq_some_iff.1 hu').1
        have hget : zv.cells[j % zv.cells.size]! = u := by
          rw [getElem!_pos zv.cells _ hlt]
          exact (Array.getElem?_eq_some_iff.1 hu').2
        simp only [madeCells, Array.getElem?_map, Array.getElem?_range, if_pos hjm, Option.map_some, hget]
      · cases he
    · cases he
  · rename_i c d hop hd
    split at he
    · rename_i x y t t' hcal hargs hts
      obtain ⟨callee, args, ts⟩ := c
      have e1 : args = #[x, y] := by rw [← Array.toList_inj]; exact hargs
      have e2 : ts = #[t, t'] := by rw [← Array.toList_inj]; exact hts
      simp only at hcal
      subst e1 e2 hcal
      exact eAppend_sound hop hd he hs hst (by omega)
    · rename_i x y t t' hcal hargs hts
      obtain ⟨callee, args, ts⟩ := c
      have e1 : args = #[x, y] := by rw [← Array.toList_inj]; exact hargs
      have e2 : ts = #[t, t'] := by rw [← Array.toList_inj]; exact hts
      simp only at hcal
      subst e1 e2 hcal
      rw [← hd] at he
      exact eCopy_sound hop he hs hst
    · cases he
  · rename_i c hop hd
    split at he
    · rename_i x y t t' hcal hargs hts
      obtain ⟨callee, args, ts⟩ := c
      have e1 : args = #[x, y] := by rw [← Array.toList_inj]; exact hargs
      have e2 : ts = #[t, t'] := by rw [← Array.toList_inj]; exact hts
      simp only at hcal
      subst e1 e2 hcal
      rw [← hd] at he
      exact eCopy_sound hop he hs hst
    · rename_i x t hcal hargs hts
      obtain ⟨callee, args, ts⟩ := c
      have e1 : args = #[x] := by rw [← Array.toList_inj]; exact hargs
      have e2 : ts = #[t] := by rw [← Array.toList_inj]; exact hts
      simp only at hcal
      subst e1 e2 hcal
      rw [← hd] at he
      exact eClear_sound hop he hs hst
    · cases he
  · cases he

theorem dstep_sound {E : Env} {a : Act} {s s' : DS} {o : Oper} {h : Option D} {side : Prop} {base : Nat} (he : dstep P base o s h = some (side, s')) (hs : side) (hst : St E M w a s) (hb : E.base = base) : EStep P o E w a s' := by
  unfold dstep at he
  split at he
  · rename_i r hr
    cases he
    exact estep_sound hr hs hst hb
  · simp only [Option.map_eq_some_iff, Prod.mk.injEq] at he
    obtain ⟨⟨sd, lv⟩, hp, h1, rfl⟩ := he
    simp only at h1
    rw [← h1] at hs
    have := pval_sound (P := P) hp hs hst.boxes (fun x _ => ev_rel hst.size hst.slots x)
    intro K Q hK
    exact this K Q fun v w' hbel hl => hK v w' M ((hst.below hbel).put o.dst hl)

theorem ud_rel : LV.rel w A M UD undef := RelD.tup [] #[] rfl (fun _ => undef) (fun j c h => by simp at h) (fun j c h => by simp at h)

theorem wantB_sound {E : Env} {a : Act} {s : DS} {ops : Array Oper} {o : Oper} {g b : Bool} {p : Prop} (h : wantB ops o s g = some (p, b)) (hp : p) (hst : St E M w a s) : Region.wanted o (yielded ops a.tmps) = b := by
  unfold wantB at h
  unfold Region.wanted
  split at h
  · rename_i hg
    cases h
    rw [hg]
  · rename_i j want hg
    rw [hg]
    split at h
    · rename_i t ht
      split at h
      · rename_i bb hsl
        simp only [Option.some.injEq, Prod.mk.injEq] at h
        obtain ⟨h1, rfl⟩ := h
        rw [← h1] at hp
        have hr := hst.slots t _ hsl
        simp only [LV.rel, C.rel] at hr
        have hv := relD_bool hr
        have hlt : t < a.tmps.size := by rw [hst.size]; exact (List.getElem?_eq_some_iff.1 hsl).1
        have hy : yielded ops a.tmps j = some bb := by
          unfold yielded
          rw [ht]
          simp only [Option.bind_some]
          rw [Array.getElem?_eq_getElem hlt]
          simp only [Array.getD_eq_getD_getElem?, Array.getElem?_eq_getElem hlt, Option.getD_some] at hv
          rw [hv]
        simp only [hy]
        rw [← hp]
        cases bb <;> cases want <;> rfl
      · rename_i hsl
        simp only [Option.some.injEq, Prod.mk.injEq] at h
        obtain ⟨_, rfl⟩ := h
        have hr := hst.slots t _ hsl
        simp only [LV.rel, C.rel] at hr
        have hlt : t < a.tmps.size := by rw [hst.size]; exact (List.getElem?_eq_some_iff.1 hsl).1
        have hy : yielded ops a.tmps j = none := by
          unfold yielded
          rw [ht]
          simp only [Option.bind_some]
          rw [Array.getElem?_eq_getElem hlt]
          simp only [Array.getD_eq_getD_getElem?, Array.getElem?_eq_getElem hlt, Option.getD_some] at hr
          generalize a.tmps[t] = v at hr
          cases hr
          rfl
        simp only [hy]
        rfl
      · cases h
    · cases h

/-- THE OPERATIONS OF A REGION, IN THE ORDER OF THE TEXT. -/
theorem dexec_sound {base : Nat} {ops : Array Oper} {Q : DX → DS → Prop} : ∀ (l : List Oper) (hs : List Hint) (s s' : DS) (side : Prop), dexec P base ops l hs s = some (side, s') → side → Q .normal s' → TL P base ops l Q s
  | [], hs, s, s', side, h, _, hq => by
    simp only [dexec, Option.some.injEq, Prod.mk.injEq] at h
    obtain ⟨_, rfl⟩ := h
    intro E M w a _ hst
    exact wpList_nil ⟨E, EnvExt.refl E, .normal, s, M, trivial, hq, hst⟩
  | o :: os, hs, s, s', side, h, hside, hq => by
    unfold dexec at h
    split at h
    · cases h
    · rename_i p hw
      split at h
      · rename_i q s2 h2
        simp only [Option.some.injEq, Prod.mk.injEq] at h
        obtain ⟨h1, rfl⟩ := h
        rw [← h1] at hside
        intro E M w a hb hst
        refine wpList_step fun K hK => ?_
        rw [wantB_sound hw hside.1 hst]
        simp only [Bool.false_eq_true, if_false]
        exact hK _ _ (dexec_sound os _ _ _ q h2 hside.2 hq E M w _ hb (hst.put o.dst (l := UD) ud_rel))
      · cases h
    · rename_i p hw
      split at h
      · cases h
      · rename_i r s1 h3
        split at h
        · rename_i q s2 h2
          simp only [Option.some.injEq, Prod.mk.injEq] at h
          obtain ⟨h1, rfl⟩ := h
          rw [← h1] at hside
          intro E M w a hb hst
          refine wpList_step fun K hK => ?_
          rw [wantB_sound hw hside.1 hst]
          simp only [if_true]
          exact dstep_sound h3 hside.2.1 hst hb K _ fun v w' M' hst' => hK _ _ (dexec_sound os _ _ _ q h2 hside.2.2 hq E M' w' _ hb hst')
        · cases h

/-- A region that does not draw. -/
theorem T_region {base id : Nat} {l : List Oper} {Q : DX → DS → Prop} {s : DS} (hs : List Hint) (s' : DS) (side : Prop) (h : dexec P base l.toArray l hs s = some (side, s')) (hside : side) (hq : Q .normal s') : T P base (.region id l.toArray false) Q s :=
  fun E M w a hb hst => wp_region_lit (dexec_sound l hs s s' side h hside hq E M w a hb hst)

theorem T_cond {base : Nat} {c : Operand} {x y : Code} {Q : DX → DS → Prop} {s : DS} (b : Bool) (hc : s.ev c = .one (.dat (.bool b))) (h1 : b = true → T P base x Q s) (h2 : b = false → T P base y Q s) : T P base (.cond c x y) Q s := by
  intro E M w a hb hst
  have hr := ev_rel hst.size hst.slots c
  rw [hc] at hr
  simp only [LV.rel, C.rel] at hr
  exact wp_cond_split (relD_bool hr) (fun h => h1 h E M w a hb hst) (fun h => h2 h E M w a hb hst)
end
end Go.DL

/-
  The data-level framework, part n: from a triple over a body to what a call returns; forgetting; freezing. Generic in the program; no condition.
-/
set_option linter.unusedVariables false
set_option linter.unusedSimpArgs false
namespace Go.DL
open Go.RowKit

/-- The results, as they stand at a function's end. -/
def dres (P : Program) (s : DS) : List ResultVar → Option (List LV)
  | [] => some []
  | .tmp t :: r => (dres P s r).map (s.ev (.tmp t) :: ·)
  | .cell a t :: r => match s.ev (.tmp a) with
    | .one (.ref id off) => match s.bx.lookup id with
      | some (.var cs) => match loadC P t cs off, dres P s r with
        | some l, some ls => some (l :: ls)
        | _, _ => none
      | _ => none
    | _ => none

def C.fits (bx : List (Nat × Box)) : C → D → Prop
  | .dat d', d => d' = d ∨ (d' = .con (.slice none 0 0) ∧ ∃ sz, d = .sl sz [])
  | .own id, d => match bx.lookup id with
    | some (.row _ sz es) => d = .sl sz es
    | _ => False
  | .fn f caps, d => match capsD caps with
    | some ds => d = .fn f ds
    | none => False
  | _, _ => False

def cellsFit (bx : List (Nat × Box)) : List C → List D → Prop
  | [], [] => True
  | c :: cs, d :: ds => c.fits bx d ∧ cellsFit bx cs ds
  | _, _ => False

def LV.fits (bx : List (Nat × Box)) : LV → D → Prop
  | .one c, d => c.fits bx d
  | .agg cs, .agg ds => cellsFit bx cs ds
  | _, _ => False

def listFit (bx : List (Nat × Box)) : List LV → List D → Prop
  | [], [] => True
  | l :: ls, d :: ds => l.fits bx d ∧ listFit bx ls ds
  | _, _ => False

def resFit (bx : List (Nat × Box)) (ls : List LV) (d : D) : Prop :=
  match ls, d with
  | [l], d => l.fits bx d
  | ls, .tup ds => listFit bx ls ds
  | _, _ => False

def retPost (P : Program) (fn : Func) (d : D) : DX → DS → Prop
  | .normal, s => ∃ ls, dres P s fn.results.toList = some ls ∧ resFit s.bx ls d
  | .ret, s => ∃ ls, dres P s fn.results.toList = some ls ∧ resFit s.bx ls d
  | _, _ => False

section
variable {P : Program} {w : World} {A : Nat → Prop} {M : BMap}

theorem C.fits_rel {E : Env} {bx : List (Nat × Box)} {c : C} {d : D} {v : Value} (hbx : Boxes E M w bx) (h : c.fits bx d) (hc : C.rel w (Av E.A0 M bx) M c v) : RelD w E.A0 d v := by
  have hsub : Keeps w (Av E.A0 M bx) w E.A0 := Keeps.sub fun b hb => .inl hb
  cases c with
  | dat d' =>
    rcases h with h | ⟨h1, sz, h2⟩
    · subst h
      exact RelD.mono hsub hc
    · subst h1 h2
      simp only [C.rel] at hc
      cases hc
      exact .sl0 _ _ _ (fun _ => rfl)
  | own id =>
    simp only [C.fits] at h
    split at h
    · rename_i e sz es hl
      subst h
      simp only [C.rel] at hc
      subst hc
      have hm := lookup_mem hl
      refine row_rel E.A0 (fun b hb => ⟨.inl hb, fun hob => ?_⟩) (hbx.ok id _ hm)
      have h1 := (hbx.new _ hm b (by simpa [boxBlk] using hob)).1
      have h2 := hbx.foreign b hb
      rcases h1 with h1 | h1
      · exact h2.2 h1
      · omega
    · cases h
  | fn f caps =>
    simp only [C.fits] at h
    split at h
    · rename_i ds hds
      subst h
      have : RelD w (Av E.A0 M bx) (.fn f ds) v := (C.toD_rel (bx := bx) (c := .fn f caps) (by simp [C.toD, hds]) hc hbx.ok).1 rfl
      exact this.mono hsub
    · cases h
  | ref id off => cases h
  | rref id i off => cases h
  | part id i off => cases h
  | junk => cases h

theorem cellsFit_rel {E : Env} {bx : List (Nat × Box)} (hbx : Boxes E M w bx) : ∀ (cs : List C) (ds : List D), cellsFit bx cs ds → ∀ (f : Nat → Option Value), (∀ (j : Nat) (c : C), cs[j]? = some c → ∃ u, f j = some u ∧ C.rel w (Av E.A0 M bx) M c u) →
    ds.length = cs.length ∧ ∀ (j : Nat) (d : D), ds[j]? = some d → ∃ u, f j = some u ∧ RelD w E.A0 d u
  | [], [], _, f, _ => by simp
  | [], _ :: _, h, _, _ => h.elim
  | _ :: _, [], h, _, _ => h.elim
  | c :: cs, d :: ds, h, f, hf => by
    obtain ⟨h3, h4⟩ := cellsFit_rel hbx cs ds h.2 (fun j => f (j + 1)) (fun j c hc => hf (j + 1) c (by simpa using hc))
    refine ⟨by simp [h3], fun j e he => ?_⟩
    cases j with
    | zero =>
      simp at he; subst he
      obtain ⟨u, hu, hr⟩ := hf 0 c rfl
      exact ⟨u, hu, C.fits_rel hbx h.1 hr⟩
    | succ j => exact h4 j e (by simpa using he)

theorem LV.fits_rel {E : Env} {bx : List (Nat × Box)} {l : LV} {d : D} {v : Value} (hbx : Boxes E M w bx) (h : l.fits bx d) (hl : LV.rel w (Av E.A0 M bx) M l v) : RelD w E.A0 d v := by
  cases l with
  | one c => exact C.fits_rel hbx h hl
  | agg cs =>
    cases d <;> simp only [LV.fits] at h
    rename_i ds
    obtain ⟨arr, rfl, h1, h2⟩ := hl
    obtain ⟨h3, h4⟩ := cellsFit_rel hbx cs ds h (fun j => arr[j]?) h2
    refine .agg ds arr (by omega) (fun j => arr.getD j undef) (fun j c hj => ?_) (fun j c hj => ?_)
    · obtain ⟨u, hu, _⟩ := h4 j c hj; simp [hu]
    · obtain ⟨u, hu, hr⟩ := h4 j c hj; simpa [hu] using hr
  | tup ps => cases d <;> simp [LV.fits] at h

theorem listFit_rel {E : Env} {bx : List (Nat × Box)} (hbx : Boxes E M w bx) : ∀ (ls : List LV) (ds : List D), listFit bx ls ds → ∀ (f : Nat → Option Value), (∀ (j : Nat) (l : LV), ls[j]? = some l → ∃ u, f j = some u ∧ LV.rel w (Av E.A0 M bx) M l u) →
    ds.length = ls.length ∧ ∀ (j : Nat) (d : D), ds[j]? = some d → ∃ u, f j = some u ∧ RelD w E.A0 d u
  | [], [], _, f, _ => by simp
  | [], _ :: _, h, _, _ => h.elim
  | _ :: _, [], h, _, _ => h.elim
  | c :: cs, d :: ds, h, f, hf => by
    obtain ⟨h3, h4⟩ := listFit_rel hbx cs ds h.2 (fun j => f (j + 1)) (fun j c hc => hf (j + 1) c (by simpa using hc))
    refine ⟨by simp [h3], fun j e he => ?_⟩
    cases j with
    | zero =>
      simp at he; subst he
      obtain ⟨u, hu, hr⟩ := hf 0 c rfl
      exact ⟨u, hu, LV.fits_rel hbx h.1 hr⟩
    | succ j => exact h4 j e (by simpa using he)

def resOne (tmps : Array Value) : ResultVar → Sem Value
  | .tmp t => pure (tmps.getD t undef)
  | .cell a t => do loadVar t (← asAddr (tmps.getD a undef))

theorem dres_run {E : Env} {a : Act} {s : DS} (hst : St E M w a s) : ∀ (rs : List ResultVar) (ls : List LV), dres P s rs = some ls →
    ∃ vs : List Value, (rs.mapM (resOne a.tmps)).run P w = .ok vs w ∧ vs.length = ls.length ∧ ∀ (j : Nat) (l : LV), ls[j]? = some l → ∃ u, vs[j]? = some u ∧ LV.rel w (Av E.A0 M s.bx) M l u
  | [], ls, h => by simp [dres] at h; subst h; exact ⟨[], by simp, rfl, by simp⟩
  | .tmp t :: r, ls, h => by
    simp only [dres, Option.map_eq_some_iff] at h
    obtain ⟨ls', h1, rfl⟩ := h
    obtain ⟨vs, h2, h3, h4⟩ := dres_run hst r ls' h1
    refine ⟨a.tmps.getD t undef :: vs, by simp [List.mapM_cons, resOne, h2], by simp [h3], fun j l hj => ?_⟩
    cases j with
    | zero => simp at hj; subst hj; exact ⟨_, rfl, ev_rel hst.size hst.slots (.tmp t)⟩
    | succ j => exact h4 j l (by simpa using hj)
  | .cell x t :: r, ls, h => by
    unfold dres at h
    split at h
    · rename_i id off hx
      split at h
      · rename_i cs hl
        split at h
        · rename_i l ls' h1 h2
          cases h
          obtain ⟨vs, h3, h4, h5⟩ := dres_run hst r ls' h2
          have hxr := ev_rel hst.size hst.slots (.tmp x)
          rw [hx] at hxr
          simp only [LV.rel, C.rel, Act.eval] at hxr
          obtain ⟨arr, T, hg, hc⟩ := hst.boxes.ok id _ (lookup_mem hl)
          obtain ⟨v, hv, hr⟩ := loadC_sound (P := P) (w := w) (A := Av E.A0 M s.bx) (M := M) (b := M.blk id) (o := 0) h1 (fun j c hj => by
            obtain ⟨v, hv, hr⟩ := hc.2 j c hj
            exact ⟨v, by rw [cell_of_row w _ _ arr T (0, 0) hg, Nat.zero_add]; exact hv, hr⟩)
          have hone : (resOne a.tmps (.cell x t)).run P w = .ok v w := by
            simp only [Instr.loadAt, Instr.sureAddr, Sem.run_bind, Sem.run_pure, Result.andThen_ok, Nat.zero_add] at hv
            simp only [resOne, hxr, asAddr, Sem.run_bind, Sem.run_pure, Result.andThen_ok, hv]
          refine ⟨v :: vs, by simp [List.mapM_cons, hone, h3], by simp [h4], fun j l' hj => ?_⟩
          cases j with
          | zero => simp at hj; subst hj; exact ⟨_, rfl, hr⟩
          | succ j => exact h5 j l' (by simpa using hj)
        · cases h
      · cases h
    · cases h

theorem results_run (fn : Func) (tmps : Array Value) (vs : List Value) (h : (fn.results.toList.mapM (resOne tmps)).run P w = .ok vs w) : (results fn tmps).run P w = .ok (if h : vs.toArray.size = 1 then vs.toArray[0] else .tuple vs.toArray) w := by
  have e : results fn tmps = (do let vs ← fn.results.mapM (resOne tmps); pure (if h : vs.size = 1 then vs[0] else .tuple vs)) := by
    unfold results
    rfl
  rw [e, Sem.run_bind, Array.mapM_eq_mapM_toList, Sem.run_map, h]
  rfl

/-- WHAT A CALL RETURNS, FROM ITS BODY. -/
theorem Ret.of_T {f : FuncId} {fn : Func} {c : Code} {ds : List D} {d : D} (hf : P.funcs[f]? = some fn) (hname : (fn.name == "runtime.NumGoroutine") = false) (hb : fn.body = some c)
    (h : T P 0 c (retPost P fn d) ⟨ds.map ofD ++ List.replicate (fn.ntmps - ds.length) (.one .junk), []⟩) : Ret P f ds d := by
  refine ⟨⟨fn, hf, hname, by rw [hb]; rfl⟩, fun w A vs hA hsz hvs => ?_⟩
  refine calls_of_wpM hf hb ?_
  let E : Env := ⟨w, A, 0, ⟨fun _ => 0, fun _ => undef, fun _ => 0⟩, fun _ => False, fun _ => False, []⟩
  have hst : St E E.M0 w { tmps := vs ++ Array.replicate (fn.ntmps - vs.size) undef, defers := [] } ⟨ds.map ofD ++ List.replicate (fn.ntmps - ds.length) (.one .junk), []⟩ := by
    refine ⟨rfl, by simp [hsz], fun t l hl => ?_, ⟨by simp, by simp, by simp, by simp, fun b hb => ⟨hA b hb, fun x => x⟩, Fr.refl _ _, by simp⟩⟩
    rw [List.getElem?_append] at hl
    split at hl
    · rename_i hlt
      simp only [List.getElem?_map, Option.map_eq_some_iff] at hl
      obtain ⟨d', hd', rfl⟩ := hl
      obtain ⟨u, hu, hr⟩ := hvs t d' hd'
      have hlt' : t < vs.size := by rw [hsz]; simpa using hlt
      have : (vs ++ Array.replicate (fn.ntmps - vs.size) undef).getD t undef = u := by
        rw [Array.getD_eq_getD_getElem?, Array.getElem?_append_left hlt', hu]; rfl
      rw [this]
      refine ofD_rel (hr.mono (Keeps.sub fun b hb => ?_))
      rcases hb with hb | ⟨p, hp, _⟩
      · exact hb
      · cases hp
    · rw [List.getElem?_replicate] at hl
      split at hl
      · cases hl; trivial
      · cases hl
  refine wp_mono (h E E.M0 w _ rfl hst) ?_
  rintro e a' wE ⟨E1, hext, x, s', M', hx, hq, hstE⟩
  have key : ∀ w', St E M' w' { a' with defers := [] } s' → (∃ ls, dres P s' fn.results.toList = some ls ∧ resFit s'.bx ls d) → ∃ v, (results fn a'.tmps).run P w' = .ok v w' ∧ ∃ u, Ending.returned v = .returned u ∧ Below w.heap.size w w' ∧ RelD w' A d u := by
    rintro w' hst' ⟨ls, h1, h2⟩
    obtain ⟨vs', h3, h4, h5⟩ := dres_run (P := P) hst' _ ls h1
    refine ⟨_, results_run fn a'.tmps vs' h3, _, rfl, hst'.boxes.frame.toBelow, ?_⟩
    unfold resFit at h2
    split at h2
    · rename_i l
      obtain ⟨u, hu, hr⟩ := h5 0 l rfl
      have hl1 : vs'.length = 1 := by rw [h4]; rfl
      obtain ⟨x, rfl⟩ := List.length_eq_one_iff.1 hl1
      simp at hu
      subst hu
      simpa using LV.fits_rel hst'.boxes h2 hr
    · rename_i ds' hne
      obtain ⟨h6, h7⟩ := listFit_rel hst'.boxes ls ds' h2 (fun j => vs'[j]?) h5
      have hne1 : vs'.toArray.size ≠ 1 := by
        intro he
        have : ls.length = 1 := by rw [← h4]; simpa using he
        obtain ⟨l, rfl⟩ := List.length_eq_one_iff.1 this
        exact hne l rfl
      rw [dif_neg hne1]
      refine .tup ds' vs'.toArray (by simp; omega) (fun j => vs'.getD j undef) (fun j c hj => ?_) (fun j c hj => ?_)
      · obtain ⟨u, hu, _⟩ := h7 j c hj
        simp [List.getD, hu]
      · obtain ⟨u, hu, hr⟩ := h7 j c hj
        simpa [List.getD, hu] using hr
    · cases h2
  have fin : (∃ ls, dres P s' fn.results.toList = some ls ∧ resFit s'.bx ls d) → ∃ w2, takeAll P a'.defers wE w2 ∧ ∃ v, (results fn a'.tmps).run P w2 = .ok v w2 ∧ ∃ u, Ending.returned v = .returned u ∧ Below w.heap.size w w2 ∧ RelD w2 A d u := by
    intro hq
    obtain ⟨w2, ht, hst'⟩ := St.atEnd (P := P) hext rfl hst.boxes.foreign hstE
    exact ⟨w2, ht, key _ hst' hq⟩
  cases x with
  | normal =>
    cases e <;> simp only [XRel] at hx
    exact ⟨.inl rfl, fin hq⟩
  | ret =>
    cases e <;> simp only [XRel] at hx
    exact ⟨.inr rfl, fin hq⟩
  | exit id => exact hq.elim
  | panic d => exact hq.elim

/-! ### forgetting slots -/
/-- A box, and all that names it, is forgotten. -/
theorem DS.le_drop (s : DS) (id : Nat) : s.Le (s.drop id) := by
  intro E M w a h
  refine ⟨M.upd id 0 undef 0, (h.toA.drop id 0 undef 0).toSt fun b hb => Av_drop hb⟩
end
end Go.DL

/-
  The data-level framework, part o: regions that draw their order. Generic in the program; no condition.
-/
set_option linter.unusedVariables false
set_option linter.unusedSimpArgs false
namespace Go.DL
open Go.RowKit

/-- The operations that only make values, in the order of the text. -/
def pexec (P : Program) (ops : Array Oper) : List Oper → List Hint → DS → Option (Prop × DS)
  | [], _, s => some (True, s)
  | o :: os, hs, s =>
    match wantB ops o s (hs.headD {}).g with
    | none => none
    | some (p, false) => match pexec P ops os hs.tail (s.put o.dst UD) with
      | some (q, s') => some (p ∧ q, s')
      | none => none
    | some (p, true) => match pval P s.ev s.bx (hs.headD {}).d o with
      | none => none
      | some (r, lv) => match pexec P ops os hs.tail (s.put o.dst lv) with
        | some (q, s') => some (p ∧ r ∧ q, s')
        | none => none

def dexecDraw (P : Program) (base : Nat) (l : List Oper) (n : Nat) (hs : List Hint) (s : DS) : Option (Prop × DS) :=
  match pexec P l.toArray (l.take n) hs s with
  | some (p, s1) => match dexec P base l.toArray (l.drop n) (hs.drop n) s1 with
    | some (q, s2) => some (p ∧ q, s2)
    | none => none
  | none => none

def headListed (n m : Nat) : Array Bool := ((List.replicate n true) ++ (List.replicate (m - n) false)).toArray

/-- Whatever order is drawn, the first n operations do not disturb each other, and the others come behind them one by one. -/
def drawOk (ops : Array Oper) (n : Nat) : Bool :=
  Region.noSelect ops && Nat.ble n ops.size &&
  ((List.range n).all fun k => (List.range n).all fun j => Nat.ble j k || Region.waitsFor .any ops j k || (match ops[k]?, ops[j]? with | some x, some y => x.apart ops y | _, _ => false)) &&
  ((List.range n).all fun j => match ops[j]? with | some o => o.after.all fun e => !Region.binds .any e || Nat.blt e.on j | none => false) &&
  (n == ops.size || (Region.sinkB .any ops n && Region.chainB .any ops n)) &&
  Region.seqB .any ops (ops.size - n) n (headListed n ops.size)

section
variable {P : Program} {w : World} {A : Nat → Prop} {M : BMap}

def Good (P : Program) (ops : Array Oper) (s : DS) (o : Oper) (v : LV) : Prop :=
  ∃ g p b, wantB ops o s g = some (p, b) ∧ p ∧ ((b = false ∧ v = UD) ∨ (b = true ∧ ∃ h sd, pval P s.ev s.bx h o = some (sd, v) ∧ sd))

theorem pexec_steps {ops : Array Oper} : ∀ (l : List Oper) (hs : List Hint) (s s' : DS) (side : Prop), pexec P ops l hs s = some (side, s') → side →
    ∃ (v : Nat → LV) (st : Nat → DS), st 0 = s ∧ st l.length = s' ∧ ∀ i o, l[i]? = some o → st (i + 1) = (st i).put o.dst (v i) ∧ Good P ops (st i) o (v i)
  | [], hs, s, s', side, h, _ => by
    simp only [pexec, Option.some.injEq, Prod.mk.injEq] at h
    exact ⟨fun _ => .one .junk, fun _ => s, rfl, h.2, fun i o hi => by simp at hi⟩
  | o :: os, hs, s, s', side, h, hside => by
    unfold pexec at h
    have cons : ∀ (v0 : LV) (q : Prop), pexec P ops os hs.tail (s.put o.dst v0) = some (q, s') → q → Good P ops s o v0 →
        ∃ (v : Nat → LV) (st : Nat → DS), st 0 = s ∧ st (o :: os).length = s' ∧ ∀ i o', (o :: os)[i]? = some o' → st (i + 1) = (st i).put o'.dst (v i) ∧ Good P ops (st i) o' (v i) := by
      intro v0 q hq hqs hg
      obtain ⟨v, st, h1, h2, h3⟩ := pexec_steps os hs.tail _ s' q hq hqs
      refine ⟨fun i => match i with | 0 => v0 | i + 1 => v i, fun i => match i with | 0 => s | i + 1 => st i, rfl, h2, fun i o' hi => ?_⟩
      cases i with
      | zero => simp at hi; subst hi; exact ⟨h1, hg⟩
      | succ i => exact h3 i o' (by simpa using hi)
    split at h
    · cases h
    · rename_i p hw
      split at h
      · rename_i q s2 h2
        simp only [Option.some.injEq, Prod.mk.injEq] at h
        obtain ⟨h1, rfl⟩ := h
        rw [← h1] at hside
        exact cons _ q h2 hside.2 ⟨_, p, false, hw, hside.1, .inl ⟨rfl, rfl⟩⟩
      · cases h
    · rename_i p hw
      split at h
      · cases h
      · rename_i r lv h3
        split at h
        · rename_i q s2 h2
          simp only [Option.some.injEq, Prod.mk.injEq] at h
          obtain ⟨h1, rfl⟩ := h
          rw [← h1] at hside
          exact cons _ q h2 hside.2.2 ⟨_, p, true, hw, hside.1, .inr ⟨rfl, _, r, h3, hside.2.1⟩⟩
        · cases h

/-- What stands in a slot once the operations of X have run. -/
def view (dst : Nat → Option Tmp) (v : Nat → LV) (sl : List LV) (X : Nat → Bool) : Nat → Tmp → Option LV
  | 0, t => sl[t]?
  | k + 1, t => if X k = true ∧ dst k = some t ∧ t < sl.length then some (v k) else view dst v sl X k t

theorem put_get (s : DS) (d : Option Tmp) (l : LV) (t : Nat) : (s.put d l).sl[t]? = if d = some t ∧ t < s.sl.length then some l else s.sl[t]? := by
  cases d with
  | none => simp [DS.put]
  | some d =>
    simp only [DS.put, List.getElem?_set]
    by_cases hd : d = t
    · subst hd
      by_cases hl : d < s.sl.length
      · simp [hl]
      · simp [hl]
    · simp [hd]

theorem put_len (s : DS) (d : Option Tmp) (l : LV) : (s.put d l).sl.length = s.sl.length := by
  cases d <;> simp [DS.put]

theorem put_bx (s : DS) (d : Option Tmp) (l : LV) : (s.put d l).bx = s.bx := by
  cases d <;> rfl

theorem view_after {dst : Nat → Option Tmp} {v : Nat → LV} {sl : List LV} {X : Nat → Bool} {i : Nat} (hXi : X i = false) (m : Nat)
    (hlater : ∀ j t, i < j → j < m → dst i = some t → dst j = some t → X j = false) (t : Tmp) :
    view dst v sl (fun j => X j || j == i) m t = if i < m ∧ dst i = some t ∧ t < sl.length then some (v i) else view dst v sl X m t := by
  induction m with
  | zero => simp [view]
  | succ m ih =>
    have ih' := ih (fun j t h1 h2 => hlater j t h1 (by omega))
    simp only [view]
    rw [ih']
    by_cases hm : m = i
    · subst hm
      simp only [beq_self_eq_true, Bool.or_true, true_and, hXi, Bool.false_eq_true, false_and, if_false, Nat.lt_irrefl, Nat.lt_succ_self]
    · have hbe : (m == i) = false := by simpa using hm
      simp only [hbe, Bool.or_false]
      by_cases hlt : i < m
      · have e1 : (i < m + 1) = True := by simp; omega
        have e2 : (i < m) = True := by simp; exact hlt
        simp only [e1, e2, true_and]
        by_cases hd : dst i = some t ∧ t < sl.length
        · simp only [if_pos hd]
          by_cases hx : X m = true ∧ dst m = some t ∧ t < sl.length
          · have := hlater m t hlt (by omega) hd.1 hx.2.1
            rw [this] at hx
            cases hx.1
          · rw [if_neg hx]
        · simp only [if_neg hd]
      · have e1 : ¬ i < m + 1 := by omega
        simp [hlt, e1]

theorem view_same {dst : Nat → Option Tmp} {v : Nat → LV} {sl : List LV} {X : Nat → Bool} {i : Nat} {t : Tmp} (hXi : X i = false) (m : Nat)
    (hbefore : ∀ j, j < i → dst j = some t → X j = true) (hafter : ∀ j, i < j → j < m → dst j = some t → X j = false) :
    view dst v sl X m t = view dst v sl (fun _ => true) (min m i) t := by
  induction m with
  | zero => simp [view]
  | succ m ih =>
    have ih' := ih (fun j h1 h2 => hafter j h1 (by omega))
    simp only [view]
    rw [ih']
    by_cases hlt : m < i
    · rw [show min (m + 1) i = min m i + 1 by omega, show min m i = m by omega]
      simp only [view]
      by_cases hd : dst m = some t
      · simp [hd, hbefore m hlt hd]
      · simp [hd]
    · rw [show min (m + 1) i = min m i by omega]
      by_cases hm : m = i
      · subst hm; simp [hXi]
      · by_cases hd : dst m = some t
        · simp [hafter m (by omega) (by omega) hd]
        · simp [hd]

theorem wantB_sound' {ops : Array Oper} {o : Oper} {s : DS} {a : Act} {g b : Bool} {p : Prop} (h : wantB ops o s g = some (p, b)) (hp : p) (hsz : a.tmps.size = s.sl.length)
    (hg : ∀ t ∈ o.looksAt ops, ∀ l, s.sl[t]? = some l → LV.rel w A M l (a.tmps.getD t undef)) : Region.wanted o (yielded ops a.tmps) = b := by
  unfold wantB at h
  unfold Region.wanted
  split at h
  · rename_i hgd
    cases h
    rw [hgd]
  · rename_i j want hgd
    rw [hgd]
    split at h
    · rename_i t ht
      split at h
      · rename_i bb hsl
        simp only [Option.some.injEq, Prod.mk.injEq] at h
        obtain ⟨h1, rfl⟩ := h
        rw [← h1] at hp
        have hr := hg t (by simp [Oper.looksAt, hgd, ht]) _ hsl
        simp only [LV.rel, C.rel] at hr
        have hv := relD_bool hr
        have hlt : t < a.tmps.size := by rw [hsz]; exact (List.getElem?_eq_some_iff.1 hsl).1
        have hy : yielded ops a.tmps j = some bb := by
          unfold yielded
          rw [ht]
          simp only [Option.bind_some]
          rw [Array.getElem?_eq_getElem hlt]
          simp only [Array.getD_eq_getD_getElem?, Array.getElem?_eq_getElem hlt, Option.getD_some] at hv
          rw [hv]
        simp only [hy]
        rw [← hp]
        cases bb <;> cases want <;> rfl
      · rename_i hsl
        simp only [Option.some.injEq, Prod.mk.injEq] at h
        obtain ⟨_, rfl⟩ := h
        have hr := hg t (by simp [Oper.looksAt, hgd, ht]) _ hsl
        simp only [LV.rel, C.rel] at hr
        have hlt : t < a.tmps.size := by rw [hsz]; exact (List.getElem?_eq_some_iff.1 hsl).1
        have hy : yielded ops a.tmps j = none := by
          unfold yielded
          rw [ht]
          simp only [Option.bind_some]
          rw [Array.getElem?_eq_getElem hlt]
          simp only [Array.getD_eq_getD_getElem?, Array.getElem?_eq_getElem hlt, Option.getD_some] at hr
          generalize a.tmps[t] = v at hr
          cases hr
          rfl
        simp only [hy]
        rfl
      · cases h
    · cases h

theorem listed_eq {n m : Nat} {listed : Array Bool} (hs : listed.size = m) (hn : n ≤ m) (h1 : ∀ i, i < n → listed.getD i false = true) (h2 : ∀ i, n ≤ i → i < m → listed.getD i true = false) : listed = headListed n m := by
  apply Array.ext
  · simp [headListed, hs]; omega
  · intro i hi1 hi2
    have hv : listed.getD i false = listed[i] := by simp [hi1]
    have hv2 : listed.getD i true = listed[i] := by simp [hi1]
    simp only [headListed, List.getElem_toArray, List.getElem_append]
    by_cases hin : i < n
    · rw [dif_pos (by simpa using hin)]
      rw [← hv, h1 i hin]; simp
    · rw [dif_neg (by simpa using hin)]
      rw [← hv2, h2 i (by omega) (by omega)]; simp

/-- How many of the first n are still to come. -/
def todo (n : Nat) (listed : Array Bool) : Nat := ((List.range n).filter fun i => !listed.getD i false).length

theorem todo_set {n i : Nat} {listed : Array Bool} (hin : i < n) (hs : i < listed.size) (hl : listed.getD i false = false) : todo n listed = todo n (listed.setIfInBounds i true) + 1 := by
  unfold todo
  have key : ∀ (l : List Nat), l.Nodup → i ∈ l → (l.filter fun k => !listed.getD k false).length = (l.filter fun k => !(listed.setIfInBounds i true).getD k false).length + 1 := by
    intro l
    induction l with
    | nil => intro _ h; cases h
    | cons x l ih =>
      intro hnd hm
      obtain ⟨hx, hnd'⟩ := List.nodup_cons.1 hnd
      by_cases hxi : x = i
      · subst hxi
        have e1 : (listed.setIfInBounds x true).getD x false = true := by simp [hs]
        have hsame : (l.filter fun k => !listed.getD k false) = (l.filter fun k => !(listed.setIfInBounds x true).getD k false) := by
          refine List.filter_congr fun k hk => ?_
          have hne : x ≠ k := fun e => hx (e ▸ hk)
          rw [getD_set_ne false hne]
        rw [List.filter_cons, List.filter_cons, e1, hl, hsame]
        simp
      · have hm' : i ∈ l := by
          rcases List.mem_cons.1 hm with h | h
          · exact absurd h.symm hxi
          · exact h
        have := ih hnd' hm'
        rw [List.filter_cons, List.filter_cons, getD_set_ne false (fun e => hxi e.symm)]
        split
        · rw [List.length_cons, List.length_cons, this]
        · exact this
  exact key _ List.nodup_range (List.mem_range.2 hin)

theorem todo_zero {n : Nat} {listed : Array Bool} (h : todo n listed = 0) : ∀ i, i < n → listed.getD i false = true := by
  intro i hi
  unfold todo at h
  have := List.eq_nil_of_length_eq_zero h
  have h2 := List.filter_eq_nil_iff.1 this i (List.mem_range.2 hi)
  simpa using h2

theorem exists_todo {n : Nat} {listed : Array Bool} {f : Nat} (h : todo n listed = f + 1) : ∃ i, i < n ∧ listed.getD i false = false ∧ ∀ j, j < i → listed.getD j false = true := by
  have hex : ∃ i, i < n ∧ listed.getD i false = false := by
    unfold todo at h
    have hne : ((List.range n).filter fun i => !listed.getD i false) ≠ [] := by intro e; rw [e] at h; cases h
    obtain ⟨x, hx⟩ := List.exists_mem_of_ne_nil _ hne
    simp only [List.mem_filter, List.mem_range, Bool.not_eq_true'] at hx
    exact ⟨x, hx.1, hx.2⟩
  have key : ∀ k, (∃ i, i ≤ k ∧ i < n ∧ listed.getD i false = false) → ∃ i, i < n ∧ listed.getD i false = false ∧ ∀ j, j < i → listed.getD j false = true := by
    intro k
    induction k with
    | zero =>
      rintro ⟨i, hi, h1, h2⟩
      exact ⟨i, h1, h2, fun j hj => by omega⟩
    | succ k ih =>
      rintro ⟨i, hi, h1, h2⟩
      by_cases hlow : ∃ i', i' ≤ k ∧ i' < n ∧ listed.getD i' false = false
      · exact ih hlow
      · refine ⟨i, h1, h2, fun j hj => ?_⟩
        cases hg : listed.getD j false with
        | true => rfl
        | false => exact absurd ⟨j, by omega, by omega, hg⟩ hlow
  obtain ⟨i, h1, h2⟩ := hex
  exact key i ⟨i, Nat.le_refl _, h1, h2⟩

/-- A region that draws its order: the first operations in any order, then the others, one by one. -/
theorem T_drawTL {base id : Nat} {l : List Oper} {Q : DX → DS → Prop} {s : DS} (n : Nat) (hs : List Hint) (s1 : DS) (p : Prop) (hm : P.follows .mixedOrders = true) (hok : drawOk l.toArray n = true)
    (hp : pexec P l.toArray (l.take n) hs s = some (p, s1)) (hside : p) (htail : TL P base l.toArray (l.drop n) Q s1) : T P base (.region id l.toArray true) Q s := by
  intro E M w0 a0 hbase hst0
  obtain ⟨v, st, hst00, hstn, hsteps⟩ := pexec_steps _ _ _ _ _ hp hside
  simp only [drawOk, Bool.and_eq_true] at hok
  obtain ⟨⟨⟨⟨⟨hsel, hnle⟩, hpairs⟩, hback⟩, hsink⟩, hseq⟩ := hok
  have hnle' : n ≤ l.length := by simpa using Nat.le_of_ble_eq_true hnle
  have htl : (l.take n).length = n := by simp; omega
  rw [htl] at hstn
  have hget : ∀ i, i < n → ∃ o, l[i]? = some o ∧ st (i + 1) = (st i).put o.dst (v i) ∧ Good P l.toArray (st i) o (v i) := by
    intro i hi
    have hlt : i < l.length := by omega
    refine ⟨l[i], List.getElem?_eq_getElem hlt, hsteps i l[i] ?_⟩
    rw [List.getElem?_take, if_pos hi, List.getElem?_eq_getElem hlt]
  let dst : Nat → Option Tmp := fun i => (l[i]?).bind (·.dst)
  have hstsl : ∀ i, i ≤ n → (st i).sl.length = s.sl.length ∧ (st i).bx = s.bx ∧ ∀ t, (st i).sl[t]? = view dst v s.sl (fun _ => true) i t := by
    intro i
    induction i with
    | zero => intro _; rw [hst00]; exact ⟨rfl, rfl, fun t => rfl⟩
    | succ i ih =>
      intro hi
      obtain ⟨h1, h2, h3⟩ := ih (by omega)
      obtain ⟨o, ho, he, _⟩ := hget i (by omega)
      rw [he]
      refine ⟨by rw [put_len]; exact h1, by rw [put_bx]; exact h2, fun t => ?_⟩
      rw [put_get, h1, h3]
      simp [view, dst, ho]
  have hpair : ∀ k j, k < n → j < n → k < j → ∀ x y, l[k]? = some x → l[j]? = some y → Region.waitsFor .any l.toArray j k = true ∨ x.apart l.toArray y = true := by
    intro k j hk hj hkj x y hx hy
    have h1 := List.all_eq_true.1 hpairs k (List.mem_range.2 hk)
    have h2 := List.all_eq_true.1 h1 j (List.mem_range.2 hj)
    simp only [Bool.or_eq_true] at h2
    rcases h2 with (h2 | h2) | h2
    · have := Nat.le_of_ble_eq_true h2; omega
    · exact .inl h2
    · simp only [List.getElem?_toArray, hx, hy] at h2
      exact .inr h2
  refine wp_region_any hm ?_
  -- whatever order, from any state that is reached
  have head : ∀ (f : Nat) (listed : Array Bool) (a : Act) (w : World), todo n listed = f → HeadInv .any l.toArray n listed → a.defers = E.defs → a.tmps.size = s.sl.length →
      (∀ t lv, view dst v s.sl (fun j => listed.getD j false) n t = some lv → LV.rel w (Av E.A0 M s.bx) M lv (a.tmps.getD t undef)) → Boxes E M w s.bx →
      wpAny P .any l.toArray (Lift E Q) (f + (l.length - n)) listed a w := by
    intro f
    induction f with
    | zero =>
      intro listed a w htodo inv hdef hsz hslots hbx
      have hall := todo_zero htodo
      have hlist : listed = headListed n l.toArray.size := listed_eq inv.size (by simpa using hnle') hall (fun i h1 h2 => inv.tail i h1 h2)
      rw [Nat.zero_add]
      have hstn' : St E M w a s1 := by
        rw [← hstn]
        obtain ⟨h1, h2, h3⟩ := hstsl n (Nat.le_refl _)
        refine ⟨hdef, by rw [hsz, h1], fun t lv hlv => ?_, by rw [h2]; exact hbx⟩
        rw [h2]
        rw [h3] at hlv
        refine hslots t lv ?_
        have key : ∀ m, m ≤ n → view dst v s.sl (fun j => listed.getD j false) m t = view dst v s.sl (fun _ => true) m t := by
          intro m
          induction m with
          | zero => intro _; rfl
          | succ m ih => intro hm; simp only [view]; rw [ih (by omega)]; simp only [hall m (by omega)]
        rw [key n (Nat.le_refl _)]
        exact hlv
      have hdl : (l.drop n).length = l.length - n := by simp
      have := wpAny_of_seq (md := .any) (ops := l.toArray) (P := P) (Q' := Lift E Q) (l.drop n) n listed a w (fun j => by simp [List.getElem?_drop]) (by rw [hdl, hlist]; simpa using hseq) (htail E M w a hbase hstn')
      rwa [hdl] at this
    | succ f ih =>
      intro listed a w htodo inv hdef hsz hslots hbx
      rw [show f + 1 + (l.length - n) = (f + (l.length - n)) + 1 by omega]
      obtain ⟨i0, hi0, hl0, hbef⟩ := exists_todo htodo
      have hready0 : i0 ∈ Region.ready .any l.toArray listed := by
        obtain ⟨o, ho, _, _⟩ := hget i0 hi0
        refine mem_ready.2 ⟨getD_in (by rw [inv.size]; simp; omega) hl0, o, by simpa using ho, fun e he hbnd => ?_⟩
        have hb := List.all_eq_true.1 hback i0 (List.mem_range.2 hi0)
        simp only [List.getElem?_toArray, ho] at hb
        have := Array.all_eq_true_iff_forall_mem.1 hb e he
        simp only [hbnd, Bool.not_true, Bool.false_or] at this
        exact hbef e.on (by simpa [Nat.blt_eq] using this)
      refine ⟨fun h0 => (by rw [h0] at hready0; cases hready0), fun i hi => ?_⟩
      obtain ⟨hun, o, hoi, hall⟩ := mem_ready.1 hi
      have hisz : i < l.length := by
        have := (Array.getElem?_eq_some_iff.1 hoi).1
        simpa using this
      have hin : i < n := by
        rcases Nat.lt_or_ge i n with h | h
        · exact h
        · rcases Bool.or_eq_true _ _ ▸ hsink with hsink | hsink
          · have : n = l.length := by simpa using hsink
            omega
          · simp only [Bool.and_eq_true] at hsink
            exact absurd hi (tail_waits hsink.1 hsink.2 (by simp; omega) inv _ i0 rfl hi0 (getD_in (by rw [inv.size]; simp; omega) hl0) i h)
      have hXi : listed.getD i false = false := getD_both hun
      have hoi' : l[i]? = some o := by simpa using hoi
      obtain ⟨o', ho', hst1, hgood⟩ := hget i hin
      have : o' = o := Option.some.inj (ho'.symm.trans hoi')
      subst this
      have hwait : ∀ j k, Region.waitsFor .any l.toArray j k = true → listed.getD j false = true → listed.getD k false = true := by
        intro j k hw hl
        obtain ⟨oj, hoj, e, he, hb, hon⟩ := Region.waitsFor_spec hw
        rw [← hon]
        exact inv.closed j oj hoj hl e he hb
      have hdstj : ∀ j t, dst j = some t → ∃ oj, l[j]? = some oj ∧ oj.dst = some t := by
        intro j t hj
        simp only [dst] at hj
        cases hlj : l[j]? with
        | none => simp [hlj] at hj
        | some oj => exact ⟨oj, rfl, by simpa [hlj] using hj⟩
      have hlook : ∀ t ∈ o'.looksAt l.toArray, ∀ lv, (st i).sl[t]? = some lv → LV.rel w (Av E.A0 M s.bx) M lv (a.tmps.getD t undef) := by
        intro t ht lv hlv
        rw [(hstsl i (by omega)).2.2] at hlv
        refine hslots t lv ?_
        rw [view_same (i := i) hXi n (fun j hj hdj => ?_) (fun j hij hjn hdj => ?_), Nat.min_eq_right (by omega)]
        · exact hlv
        · obtain ⟨oj, hoj, hdo⟩ := hdstj j t hdj
          rcases hpair j i (by omega) hin hj oj o' hoj hoi' with h1 | h1
          · obtain ⟨oo, hoo, e, he, hb, hon⟩ := Region.waitsFor_spec h1
            have : oo = o' := Option.some.inj (hoo.symm.trans hoi)
            subst this
            rw [← hon]
            exact hall e he hb
          · exact absurd ht ((Oper.apart_spec h1).1 t hdo)
        · obtain ⟨oj, hoj, hdo⟩ := hdstj j t hdj
          rcases hpair i j hin hjn hij o' oj hoi' hoj with h1 | h1
          · cases hlj : listed.getD j false with
            | false => rfl
            | true => rw [hwait j i h1 hlj] at hXi; cases hXi
          · exact absurd ht ((Oper.apart_spec h1).2.2 t hdo)
      have hszi : a.tmps.size = (st i).sl.length := by rw [hsz, (hstsl i (by omega)).1]
      have hbxi : (st i).bx = s.bx := (hstsl i (by omega)).2.1
      have next : ∀ (val : Value) (w' : World), Below w.heap.size w w' → LV.rel w' (Av E.A0 M s.bx) M (v i) val → wpAny P .any l.toArray (Lift E Q) (f + (l.length - n)) (listed.setIfInBounds i true) (a.put o'.dst val) w' := by
        intro val w' hbel hval
        have hls : i < listed.size := by rw [inv.size]; simp; omega
        refine ih _ _ w' (by have := todo_set hin hls hXi; omega) (inv.set hi hin) (by cases hdd : o'.dst <;> simp [Act.put, hdd, hdef]) (by cases hdd : o'.dst <;> simp [Act.put, hdd, hsz]) (fun t lv hlv => ?_) (hbx.below hbel)
        have hX' : (fun j => (listed.setIfInBounds i true).getD j false) = fun j => listed.getD j false || j == i := by
          funext j
          by_cases hj : i = j
          · subst hj; simp [hls]
          · rw [getD_set_ne false hj]
            have : (j == i) = false := by simpa using fun e => hj e.symm
            simp [this]
        rw [hX', view_after (i := i) hXi n (fun j t hij hjn hdi hdj => by
          obtain ⟨oj, hoj, hdo⟩ := hdstj j t hdj
          rcases hpair i j hin hjn hij o' oj hoi' hoj with h1 | h1
          · cases hlj : listed.getD j false with
            | false => rfl
            | true => rw [hwait j i h1 hlj] at hXi; cases hXi
          · have hdi' : o'.dst = some t := by simpa [dst, hoi'] using hdi
            exact absurd hdo ((Oper.apart_spec h1).2.1 t hdi')) t] at hlv
        have hdi : dst i = o'.dst := by simp [dst, hoi']
        rw [hdi] at hlv
        split at hlv
        · rename_i hc
          cases hlv
          have hlt : t < a.tmps.size := by rw [hsz]; exact hc.2.2
          rw [hc.2.1]
          simpa [Act.put, hlt] using hval
        · rename_i hc
          have hold := (hslots t lv hlv).mono (Keeps.below hbel)
          have hlt : t < s.sl.length := by
            have : ∀ m, view dst v s.sl (fun j => listed.getD j false) m t = some lv → t < s.sl.length := by
              intro m
              induction m with
              | zero => intro h; exact (List.getElem?_eq_some_iff.1 h).1
              | succ m ih =>
                intro h
                simp only [view] at h
                split at h
                · rename_i hh; exact hh.2.2
                · exact ih h
            exact this n hlv
          have hne : o'.dst ≠ some t := fun e => hc ⟨hin, e, hlt⟩
          cases hdd : o'.dst with
          | none => simpa [Act.put, hdd] using hold
          | some d =>
            have : d ≠ t := fun e => hne (by rw [hdd, e])
            simpa [Act.put, hdd, this] using hold
      unfold wpOp
      simp only [hoi]
      obtain ⟨g, pp, b, hwb, hpp, hcase⟩ := hgood
      rw [wantB_sound' (w := w) (A := Av E.A0 M s.bx) (M := M) hwb hpp hszi hlook]
      rcases hcase with ⟨rfl, hv⟩ | ⟨rfl, hh, sd, hpv, hsd⟩
      · simp only [Bool.false_eq_true, if_false]
        exact next undef w (Below.refl _ _) (by rw [hv]; exact ud_rel)
      · simp only [if_true]
        rw [hbxi] at hpv
        refine .inl (pval_sound (P := P) (E := E) hpv hsd hbx (fun x hx => ?_) _ _ next)
        cases x with
        | tmp t =>
          simp only [DS.ev, Act.eval]
          cases ht : (st i).sl[t]? with
          | none => simp [List.getD, ht]; trivial
          | some lv =>
            simp only [List.getD, ht, Option.getD_some]
            refine hlook t ?_ lv ht
            exact List.mem_append_left _ (List.mem_filterMap.2 ⟨.tmp t, by simpa using hx, rfl⟩)
        | const c => exact ofConst_rel c
        | global g => exact RelD.con _ rfl
        | func f => exact ⟨#[], rfl, rfl, fun j c hj => by simp at hj⟩
  have hdrew : Below w0.heap.size w0 w0.drew := (Below.refl _ _).drew
  have hst1 := hst0.below hdrew
  have hrep : todo n (Array.replicate l.toArray.size false) = n := by
    unfold todo
    have : ((List.range n).filter fun i => !(Array.replicate l.toArray.size false).getD i false) = List.range n := by
      rw [List.filter_eq_self]
      intro k _
      rw [getD_replicate_false]; rfl
    rw [this]; simp
  have := head n (Array.replicate l.toArray.size false) a0 w0.drew hrep
    ⟨by simp, fun j oj _ hl => (by rw [getD_replicate_false] at hl; cases hl), fun t _ ht => getD_in (by simpa using ht) (getD_replicate_false _ _)⟩ hst1.defers hst1.size (fun t lv hlv => by
      refine hst1.slots t lv ?_
      have : ∀ m, view dst v s.sl (fun j => (Array.replicate l.toArray.size false).getD j false) m t = s.sl[t]? := by
        intro m
        induction m with
        | zero => rfl
        | succ m ih => simp only [view]; rw [ih]; simp only [getD_replicate_false]; simp
      rw [← this n]; exact hlv) hst1.boxes
  rw [show n + (l.length - n) = l.toArray.size by simp; omega] at this
  exact this

/-- A REGION THAT DRAWS ITS ORDER. -/
theorem T_draw {base id : Nat} {l : List Oper} {Q : DX → DS → Prop} {s : DS} (n : Nat) (hs : List Hint) (s' : DS) (side : Prop) (hm : P.follows .mixedOrders = true) (hok : drawOk l.toArray n = true)
    (h : dexecDraw P base l n hs s = some (side, s')) (hside : side) (hq : Q .normal s') : T P base (.region id l.toArray true) Q s := by
  unfold dexecDraw at h
  split at h
  case h_2 => cases h
  rename_i p s1 hp
  split at h
  case h_2 => cases h
  rename_i q s2 hd
  simp only [Option.some.injEq, Prod.mk.injEq] at h
  obtain ⟨h1, rfl⟩ := h
  rw [← h1] at hside
  exact T_drawTL n hs s1 p hm hok hp hside.1 (dexec_sound (P := P) (base := base) (Q := Q) _ _ _ _ _ hd hside.2 hq)

end
end Go.DL

/-
  The data-level framework, part p: calls that are entered with the caller's boxes; boxes that become immutable data. Generic in the program; no condition.
-/
set_option linter.unusedVariables false
set_option linter.unusedSimpArgs false
namespace Go.DL
open Go.RowKit

def C.keep (ok : Nat → Bool) : C → C
  | .own i => match ok i with | true => .own i | false => .junk
  | .ref i o => match ok i with | true => .ref i o | false => .junk
  | .rref i k o => match ok i with | true => .rref i k o | false => .junk
  | .part i k o => match ok i with | true => .part i k o | false => .junk
  | .fn f caps => match caps.all (fun c => match c with | .inl i => ok i | .inr _ => true) with | true => .fn f caps | false => .junk
  | c => c

def LV.keep (ok : Nat → Bool) : LV → LV
  | .one c => .one (c.keep ok)
  | .agg cs => .agg (cs.map (C.keep ok))
  | .tup vs => .tup (vs.map fun p => (p.1, p.2.map (C.keep ok)))

def capLV : Sum Nat D → LV
  | .inl i => .one (.ref i 0)
  | .inr d => .one (.dat d)

def partOf : LV → Bool × List C
  | .one c => (false, [c])
  | .agg cs => (true, cs)
  | .tup _ => (false, [])

def resLV (ls : List LV) : LV :=
  match ls with
  | [l] => l
  | ls => .tup (ls.map partOf)

def liveIn (bx : List (Nat × Box)) (base : Nat) (i : Nat) : Bool := Nat.blt i base && bx.any fun p => p.1 == i

/-- The caller's state behind the call. -/
def DS.back (s : DS) (bx : List (Nat × Box)) (base : Nat) : DS := ⟨s.sl.map (LV.keep (liveIn bx base)), bx⟩

def inlinePost (P : Program) (fn : Func) (base' : Nat) (N : DS → Prop) (dst : Option Tmp) (s : DS) : DX → DS → Prop
  | .normal, s' => ∃ ls, dres P s' fn.results.toList = some ls ∧ N ((s.back s'.bx base').put dst (resLV ls))
  | .ret, s' => ∃ ls, dres P s' fn.results.toList = some ls ∧ N ((s.back s'.bx base').put dst (resLV ls))
  | _, _ => False

section
variable {P : Program} {w : World} {A : Nat → Prop} {M M' : BMap}

theorem C.keep_rel {ok : Nat → Bool} {c : C} {v : Value} (hM : ∀ i, ok i = true → M'.blk i = M.blk i ∧ M'.rv i = M.rv i ∧ M'.sz i = M.sz i) (h : C.rel w A M c v) : C.rel w A M' (c.keep ok) v := by
  cases c with
  | own i =>
    simp only [C.keep]
    split
    · rename_i hi; simpa [C.rel, hM i hi] using h
    · trivial
  | ref i o =>
    simp only [C.keep]
    split
    · rename_i hi; simpa [C.rel, hM i hi] using h
    · trivial
  | rref i k o =>
    simp only [C.keep]
    split
    · rename_i hi; simpa [C.rel, hM i hi] using h
    · trivial
  | part i k o =>
    simp only [C.keep]
    split
    · rename_i hi; simpa [C.rel, hM i hi] using h
    · trivial
  | fn f caps =>
    simp only [C.keep]
    split
    · rename_i hi
      obtain ⟨arr, h1, h2, h3⟩ := h
      refine ⟨arr, h1, h2, fun j c hj => ?_⟩
      obtain ⟨u, hu, hr⟩ := h3 j c hj
      refine ⟨u, hu, ?_⟩
      cases c with
      | inl i =>
        have := List.all_eq_true.1 hi _ (List.mem_of_getElem? hj)
        simp only at this
        simpa [capRel, hM i this] using hr
      | inr d => exact hr
    · trivial
  | dat d => exact h
  | junk => trivial

theorem cells_keep {ok : Nat → Bool} {cs : List C} {arr : Array Value} (hM : ∀ i, ok i = true → M'.blk i = M.blk i ∧ M'.rv i = M.rv i ∧ M'.sz i = M.sz i) (h : cellsRel w A M cs arr) : cellsRel w A M' (cs.map (C.keep ok)) arr := by
  refine ⟨by simp [h.1], fun j c hj => ?_⟩
  simp only [List.getElem?_map, Option.map_eq_some_iff] at hj
  obtain ⟨c', hc', rfl⟩ := hj
  obtain ⟨u, hu, hr⟩ := h.2 j c' hc'
  exact ⟨u, hu, C.keep_rel hM hr⟩

theorem LV.keep_rel {ok : Nat → Bool} {l : LV} {v : Value} (hM : ∀ i, ok i = true → M'.blk i = M.blk i ∧ M'.rv i = M.rv i ∧ M'.sz i = M.sz i) (h : LV.rel w A M l v) : LV.rel w A M' (l.keep ok) v := by
  cases l with
  | one c => exact C.keep_rel hM h
  | agg cs => exact let ⟨arr, h1, h2⟩ := h; ⟨arr, h1, cells_keep hM h2⟩
  | tup ps =>
    obtain ⟨arr, h1, h2, h3⟩ := h
    refine ⟨arr, h1, by simp [h2], fun j p hj => ?_⟩
    simp only [List.getElem?_map, Option.map_eq_some_iff] at hj
    obtain ⟨q, hq, rfl⟩ := hj
    obtain ⟨u, hu, hr⟩ := h3 j q hq
    refine ⟨u, hu, ?_⟩
    obtain ⟨b, cs⟩ := q
    cases b with
    | true => exact let ⟨arr, h1, h2⟩ := hr; ⟨arr, h1, cells_keep hM h2⟩
    | false =>
      match cs, hr with
      | [], _ => trivial
      | [c], hr => exact C.keep_rel hM hr
      | _ :: _ :: _, _ => trivial

theorem partOf_rel {l : LV} {v : Value} (h : LV.rel w A M l v) : partRel w A M (partOf l) v := by
  cases l with
  | one c => exact h
  | agg cs => exact h
  | tup ps => trivial

theorem resLV_rel {ls : List LV} {vs : List Value} (hl : vs.length = ls.length) (h : ∀ (j : Nat) (l : LV), ls[j]? = some l → ∃ u, vs[j]? = some u ∧ LV.rel w A M l u) :
    LV.rel w A M (resLV ls) (if h : vs.toArray.size = 1 then vs.toArray[0] else .tuple vs.toArray) := by
  unfold resLV
  split
  · rename_i l
    have : vs.length = 1 := by rw [hl]; rfl
    obtain ⟨x, rfl⟩ := List.length_eq_one_iff.1 this
    obtain ⟨u, hu, hr⟩ := h 0 l rfl
    simp at hu
    subst hu
    simpa using hr
  · rename_i hne
    have hne1 : vs.toArray.size ≠ 1 := by
      intro he
      have : ls.length = 1 := by rw [← hl]; simpa using he
      obtain ⟨l, rfl⟩ := List.length_eq_one_iff.1 this
      exact hne l rfl
    rw [dif_neg hne1]
    refine ⟨vs.toArray, rfl, by simp [hl], fun j p hj => ?_⟩
    simp only [List.getElem?_map, Option.map_eq_some_iff] at hj
    obtain ⟨l, hlj, rfl⟩ := hj
    obtain ⟨u, hu, hr⟩ := h j l hlj
    exact ⟨u, by simpa using hu, partOf_rel hr⟩

/-- A CALL THAT IS ENTERED WITH THE CALLER's BOXES. -/
theorem TL_inline {base : Nat} {ops : Array Oper} {o : Oper} {rest : List Oper} {Q : DX → DS → Prop} {s : DS} (base' : Nat) {fop : Operand} {args : Array Operand} {ts : Array TypeId} (f : FuncId) (caps : List (Sum Nat D)) (fn : Func) (c : Code)
    (ho : o.op = .call { callee := .value fop, args := args, argTypes := ts }) (hg : o.guard = none) (hf : s.ev fop = .one (.fn f caps)) (hfn : P.funcs[f]? = some fn) (hname : (fn.name == "runtime.NumGoroutine") = false) (hb : fn.body = some c) (hbase : base ≤ base')
    (h : T P base' c (inlinePost P fn base' (TL P base ops rest Q) o.dst s) ⟨args.toList.map s.ev ++ (caps.map capLV ++ List.replicate (fn.ntmps - (args.size + caps.length)) (.one .junk)), s.bx⟩) : TL P base ops (o :: rest) Q s := by
  intro E M w a hE hst
  refine wpList_plain hg fun K hK => ?_
  have hslots := ev_rel hst.size hst.slots
  have hfr := hslots fop
  rw [hf] at hfr
  obtain ⟨cv, hfv, hcs, hcv⟩ := hfr
  unfold Oper.wp
  rw [run_call_func ho hfv ⟨fn, hfn, hname, by rw [hb]; rfl⟩, Oper.upon_enter]
  let E' : Env := ⟨w, E.A0, base', M, fun k => ∃ p ∈ s.bx, boxBlk M p = some k, fun i => i ∈ s.bx.map (·.1), []⟩
  have hO : ∀ k, E'.O k → (E.O k ∨ E.w0.heap.size ≤ k) ∧ k < w.heap.size := fun k ⟨p, hp, hk⟩ => hst.boxes.new p hp k hk
  have hbx' : Boxes E' M w s.bx := {
    ok := hst.boxes.ok
    ids := hst.boxes.ids
    blks := hst.boxes.blks
    new := fun p hp k hk => ⟨.inl ⟨p, hp, hk⟩, (hst.boxes.new p hp k hk).2⟩
    foreign := fun b hb => by
      have h1 := hst.boxes.foreign b hb
      refine ⟨Nat.lt_of_lt_of_le h1.1 hst.boxes.frame.size, fun hob => ?_⟩
      rcases (hO b hob).1 with h2 | h2
      · exact h1.2 h2
      · have := h1.1; omega
    frame := Fr.refl _ _
    old := fun p hp _ => ⟨List.mem_map.2 ⟨p, hp, rfl⟩, rfl, rfl, rfl⟩ }
  refine calls_of_wpM hfn hb ?_
  have hst' : St E' M w { tmps := args.map a.eval ++ cv ++ Array.replicate (fn.ntmps - (args.map a.eval ++ cv).size) undef, defers := [] } ⟨args.toList.map s.ev ++ (caps.map capLV ++ List.replicate (fn.ntmps - (args.size + caps.length)) (.one .junk)), s.bx⟩ := by
    refine ⟨rfl, by simp [hcs], fun t l hl => ?_, hbx'⟩
    rw [List.getElem?_append] at hl
    simp only [List.length_map, Array.length_toList] at hl
    rw [Array.append_assoc, Array.getD_eq_getD_getElem?, Array.getElem?_append]
    simp only [Array.size_map]
    split at hl
    · rename_i hlt
      simp only [List.getElem?_map, Option.map_eq_some_iff, Array.getElem?_toList] at hl
      obtain ⟨x, hx, rfl⟩ := hl
      rw [if_pos hlt]
      simp only [Array.getElem?_map, hx, Option.map_some, Option.getD_some]
      exact hslots x
    · rename_i hge
      rw [if_neg hge]
      rw [List.getElem?_append] at hl
      simp only [List.length_map] at hl
      rw [Array.getElem?_append, hcs]
      split at hl
      · rename_i hlt
        rw [if_pos hlt]
        simp only [List.getElem?_map, Option.map_eq_some_iff] at hl
        obtain ⟨cp, hcp, rfl⟩ := hl
        obtain ⟨u, hu, hr⟩ := hcv _ cp hcp
        rw [hu, Option.getD_some]
        cases cp with
        | inl i => exact hr
        | inr d => exact hr
      · rw [List.getElem?_replicate] at hl
        split at hl
        · cases hl; trivial
        · cases hl
  refine wp_mono (h E' M w _ rfl hst') ?_
  rintro e a' wE ⟨E1, hext, x, s', M', hx, hq, hstE⟩
  have key2 : ∀ w', St E' M' w' { a' with defers := [] } s' → (∃ ls, dres P s' fn.results.toList = some ls ∧ TL P base ops rest Q ((s.back s'.bx base').put o.dst (resLV ls))) → ∃ v, (results fn a'.tmps).run P w' = .ok v w' ∧ K (a.put o.dst v) w' := by
    intro w' hst2
    have hFr : Fr E.O E.w0 w' := by
      have h1 := hst2.boxes.frame
      have h2 := hst.boxes.frame
      refine ⟨h1.os.trans h2.os, h1.tape.trans h2.tape, h1.output.trans h2.output, Nat.le_trans h2.size h1.size, fun k hk hok => ?_⟩
      refine (h1.block k (Nat.lt_of_lt_of_le hk h2.size) fun hob => ?_).trans (h2.block k hk hok)
      rcases (hO k hob).1 with h3 | h3
      · exact hok h3
      · omega
    have hBox : Boxes E M' w' s'.bx := {
      ok := hst2.boxes.ok
      ids := hst2.boxes.ids
      blks := hst2.boxes.blks
      new := fun p hp k hk => by
        obtain ⟨h1, h2⟩ := hst2.boxes.new p hp k hk
        refine ⟨?_, h2⟩
        rcases h1 with h1 | h1
        · exact (hO k h1).1
        · exact .inr (Nat.le_trans hst.boxes.frame.size h1)
      foreign := hst.boxes.foreign
      frame := hFr
      old := fun p hp hlt => by
        obtain ⟨h1, h2, h3, h4⟩ := hst2.boxes.old p hp (Nat.lt_of_lt_of_le hlt (by show E.base ≤ base'; omega))
        obtain ⟨p0, hp0, he⟩ := List.mem_map.1 h1
        have := hst.boxes.old p0 hp0 (by rw [he]; exact hlt)
        rw [he] at this
        obtain ⟨g1, g2, g3, g4⟩ := this
        exact ⟨g1, h2.trans g2, h3.trans g3, h4.trans g4⟩ }
    have hKeeps : Keeps w (Av E.A0 M s.bx) w' (Av E.A0 M' s'.bx) := by
      intro b off u h1 h2
      have hlt := World.block_lt_of_cell? w ⟨b, off, none⟩ h2
      have hnO : ¬ E'.O b := fun hob => h1 (.inr hob)
      refine ⟨fun h3 => ?_, ?_⟩
      · rcases h3 with h3 | ⟨p, hp, hk⟩
        · exact h1 (.inl h3)
        · rcases (hst2.boxes.new p hp b hk).1 with h4 | h4
          · exact hnO h4
          · exact absurd hlt (Nat.not_lt.2 h4)
      · rw [World.cell?_of_block (hst2.boxes.frame.block b hlt hnO)]; exact h2
    have hlive : ∀ i, liveIn s'.bx base' i = true → M'.blk i = M.blk i ∧ M'.rv i = M.rv i ∧ M'.sz i = M.sz i := by
      intro i hi
      simp only [liveIn, Bool.and_eq_true, List.any_eq_true, beq_iff_eq] at hi
      obtain ⟨h1, p, hp, he⟩ := hi
      have hlt : i < base' := by simpa [Nat.blt_eq] using h1
      obtain ⟨_, h2, h3, h4⟩ := hst2.boxes.old p hp (by rw [he]; exact hlt)
      rw [he] at h2 h3 h4
      exact ⟨h2, h3, h4⟩
    have hcall : St E M' w' a (s.back s'.bx base') := by
      refine ⟨hst.defers, by simp [DS.back, hst.size], fun t l hl => ?_, hBox⟩
      simp only [DS.back, List.getElem?_map, Option.map_eq_some_iff] at hl
      obtain ⟨l', hl', rfl⟩ := hl
      exact LV.keep_rel hlive ((hst.slots t l' hl').mono hKeeps)
    have key : (∃ ls, dres P s' fn.results.toList = some ls ∧ TL P base ops rest Q ((s.back s'.bx base').put o.dst (resLV ls))) → ∃ v, (results fn a'.tmps).run P w' = .ok v w' ∧ K (a.put o.dst v) w' := by
      rintro ⟨ls, h1, h2⟩
      obtain ⟨vs, h3, h4, h5⟩ := dres_run (P := P) hst2 _ ls h1
      exact ⟨_, results_run fn a'.tmps vs h3, hK _ _ (h2 E M' w' _ hE (hcall.put o.dst (resLV_rel h4 h5)))⟩
    exact key
  have fin : (∃ ls, dres P s' fn.results.toList = some ls ∧ TL P base ops rest Q ((s.back s'.bx base').put o.dst (resLV ls))) → ∃ w2, takeAll P a'.defers wE w2 ∧ ∃ v, (results fn a'.tmps).run P w2 = .ok v w2 ∧ K (a.put o.dst v) w2 := by
    intro hq
    obtain ⟨w2, ht, hst'⟩ := St.atEnd (P := P) hext rfl hbx'.foreign hstE
    exact ⟨w2, ht, key2 _ hst' hq⟩
  cases x with
  | normal =>
    cases e <;> simp only [XRel] at hx
    exact ⟨.inl rfl, fin hq⟩
  | ret =>
    cases e <;> simp only [XRel] at hx
    exact ⟨.inr rfl, fin hq⟩
  | exit id => exact hq.elim
  | panic d => exact hq.elim

/-- Operations of a region one part after the other: first those that are run at once, then what is left. -/
theorem TL_append {base : Nat} {ops : Array Oper} {Q : DX → DS → Prop} : ∀ (l1 l2 : List Oper) (hs : List Hint) (s s' : DS) (side : Prop), dexec P base ops l1 hs s = some (side, s') → side → TL P base ops l2 Q s' → TL P base ops (l1 ++ l2) Q s
  | [], l2, hs, s, s', side, h, _, hq => by
    simp only [dexec, Option.some.injEq, Prod.mk.injEq] at h
    obtain ⟨_, rfl⟩ := h
    exact hq
  | o :: os, l2, hs, s, s', side, h, hside, hq => by
    unfold dexec at h
    split at h
    · cases h
    · rename_i p hw
      split at h
      · rename_i q s2 h2
        simp only [Option.some.injEq, Prod.mk.injEq] at h
        obtain ⟨h1, rfl⟩ := h
        rw [← h1] at hside
        intro E M w a hb hst
        rw [List.cons_append]
        refine wpList_step fun K hK => ?_
        rw [wantB_sound hw hside.1 hst]
        simp only [Bool.false_eq_true, if_false]
        exact hK _ _ (TL_append os l2 _ _ _ q h2 hside.2 hq E M w _ hb (hst.put o.dst (l := UD) ud_rel))
      · cases h
    · rename_i p hw
      split at h
      · cases h
      · rename_i r s1 h3
        split at h
        · rename_i q s2 h2
          simp only [Option.some.injEq, Prod.mk.injEq] at h
          obtain ⟨h1, rfl⟩ := h
          rw [← h1] at hside
          intro E M w a hb hst
          rw [List.cons_append]
          refine wpList_step fun K hK => ?_
          rw [wantB_sound hw hside.1 hst]
          simp only [if_true]
          exact dstep_sound h3 hside.2.1 hst hb K _ fun v w' M' hst' => hK _ _ (TL_append os l2 _ _ _ q h2 hside.2.2 hq E M' w' _ hb hst')
        · cases h

theorem TL_all {base : Nat} {ops : Array Oper} {l : List Oper} {Q : DX → DS → Prop} {s : DS} (hs : List Hint) (s' : DS) (side : Prop) (h : dexec P base ops l hs s = some (side, s')) (hside : side) (hq : Q .normal s') : TL P base ops l Q s :=
  dexec_sound l hs s s' side h hside hq

/-! ### boxes that become immutable data -/
def C.freeze (id : Nat) (od : Option D) (rd : Option (List D)) : C → C
  | .own i => match i == id with
    | true => match od with
      | some d => .dat d
      | none => .junk
    | false => .own i
  | .ref i o => match i == id with
    | true => match rd with
      | some ds => .dat (.ptr (ds.drop o))
      | none => .junk
    | false => .ref i o
  | .rref i k o => match i == id with
    | true => .junk
    | false => .rref i k o
  | .part i k o => match i == id with
    | true => .junk
    | false => .part i k o
  | .fn f caps => match caps.any (fun c => match c with | .inl i => i == id | .inr _ => false) with
    | false => .fn f caps
    | true => match rd with
      | some ds => .fn f (caps.map fun c => match c with | .inl i => (match i == id with | true => .inr (.ptr ds) | false => .inl i) | .inr d => .inr d)
      | none => .junk
  | c => c

def LV.freeze (id : Nat) (od : Option D) (rd : Option (List D)) : LV → LV
  | .one c => .one (c.freeze id od rd)
  | .agg cs => .agg (cs.map (C.freeze id od rd))
  | .tup vs => .tup (vs.map fun p => (p.1, p.2.map (C.freeze id od rd)))

def Box.freeze (id : Nat) (od : Option D) (rd : Option (List D)) : Box → Box
  | .var cs => .var (cs.map (C.freeze id od rd))
  | .nest e es c => .nest e es (c.freeze id od rd)
  | b => b

def boxData : Box → Option D × Option (List D)
  | .row _ sz es => (some (.sl sz es), none)
  | .var cs => (none, allDat cs)
  | .map _ _ _ _ => (none, none)
  | .obj _ => (none, none)
  | .nest _ _ _ => (none, none)
  | .mapl _ _ _ => (none, none)

def DS.freeze (id : Nat) (s : DS) : DS :=
  match s.bx.lookup id with
  | some b => { sl := s.sl.map (LV.freeze id (boxData b).1 (boxData b).2), bx := (s.bx.filter fun p => !(p.1 == id)).map fun p => (p.1, p.2.freeze id (boxData b).1 (boxData b).2) }
  | none => s

theorem C.freeze_rel {id : Nat} {od : Option D} {rd : Option (List D)} {c : C} {v : Value} (h1 : ∀ d, od = some d → RelD w A d (M.rv id)) (h2 : ∀ ds, rd = some ds → ∀ o, RelD w A (.ptr (ds.drop o)) (.pointer (some ⟨M.blk id, o, none⟩))) (h : C.rel w A M c v) :
    C.rel w A M (c.freeze id od rd) v := by
  cases c with
  | own i =>
    simp only [C.freeze]
    split
    · rename_i hi
      have : i = id := by simpa using hi
      subst this
      split
      · rename_i d
        simp only [C.rel] at h
        subst h
        exact h1 d rfl
      · trivial
    · exact h
  | ref i o =>
    simp only [C.freeze]
    split
    · rename_i hi
      have : i = id := by simpa using hi
      subst this
      split
      · rename_i ds
        simp only [C.rel] at h
        subst h
        exact h2 ds rfl o
      · trivial
    · exact h
  | rref i k o =>
    simp only [C.freeze]
    split
    · trivial
    · exact h
  | part i k o =>
    simp only [C.freeze]
    split
    · trivial
    · exact h
  | fn f caps =>
    simp only [C.freeze]
    split
    · exact h
    · split
      · rename_i ds
        obtain ⟨arr, g1, g2, g3⟩ := h
        refine ⟨arr, g1, by simp [g2], fun j c hj => ?_⟩
        simp only [List.getElem?_map, Option.map_eq_some_iff] at hj
        obtain ⟨c', hc', rfl⟩ := hj
        obtain ⟨u, hu, hr⟩ := g3 j c' hc'
        refine ⟨u, hu, ?_⟩
        cases c' with
        | inl i =>
          simp only
          split
          · rename_i hi
            have : i = id := by simpa using hi
            subst this
            simp only [capRel] at hr ⊢
            subst hr
            exact h2 ds rfl 0
          · exact hr
        | inr d => exact hr
      · trivial
  | dat d => exact h
  | junk => trivial

theorem cells_freeze {id : Nat} {od : Option D} {rd : Option (List D)} {cs : List C} {arr : Array Value} (h1 : ∀ d, od = some d → RelD w A d (M.rv id)) (h2 : ∀ ds, rd = some ds → ∀ o, RelD w A (.ptr (ds.drop o)) (.pointer (some ⟨M.blk id, o, none⟩))) (h : cellsRel w A M cs arr) :
    cellsRel w A M (cs.map (C.freeze id od rd)) arr := by
  refine ⟨by simp [h.1], fun j c hj => ?_⟩
  simp only [List.getElem?_map, Option.map_eq_some_iff] at hj
  obtain ⟨c', hc', rfl⟩ := hj
  obtain ⟨u, hu, hr⟩ := h.2 j c' hc'
  exact ⟨u, hu, C.freeze_rel h1 h2 hr⟩

theorem LV.freeze_rel {id : Nat} {od : Option D} {rd : Option (List D)} {l : LV} {v : Value} (h1 : ∀ d, od = some d → RelD w A d (M.rv id)) (h2 : ∀ ds, rd = some ds → ∀ o, RelD w A (.ptr (ds.drop o)) (.pointer (some ⟨M.blk id, o, none⟩))) (h : LV.rel w A M l v) :
    LV.rel w A M (l.freeze id od rd) v := by
  cases l with
  | one c => exact C.freeze_rel h1 h2 h
  | agg cs => exact let ⟨arr, g1, g2⟩ := h; ⟨arr, g1, cells_freeze h1 h2 g2⟩
  | tup ps =>
    obtain ⟨arr, g1, g2, g3⟩ := h
    refine ⟨arr, g1, by simp [g2], fun j p hj => ?_⟩
    simp only [List.getElem?_map, Option.map_eq_some_iff] at hj
    obtain ⟨q, hq, rfl⟩ := hj
    obtain ⟨u, hu, hr⟩ := g3 j q hq
    refine ⟨u, hu, ?_⟩
    obtain ⟨b, cs⟩ := q
    cases b with
    | true => exact let ⟨arr, g1, g2⟩ := hr; ⟨arr, g1, cells_freeze h1 h2 g2⟩
    | false =>
      match cs, hr with
      | [], _ => trivial
      | [c], hr => exact C.freeze_rel h1 h2 hr
      | _ :: _ :: _, _ => trivial

theorem boxBlk_freeze {id : Nat} {od : Option D} {rd : Option (List D)} {i : Nat} {b : Box} : boxBlk M (i, b.freeze id od rd) = boxBlk M (i, b) := by
  cases b <;> rfl

/-- A box becomes immutable data. -/
theorem DS.le_freeze (s : DS) (id : Nat) : s.Le (s.freeze id) := by
  intro E M w a h
  unfold DS.freeze
  split
  case h_2 => exact ⟨M, h⟩
  rename_i b hl
  have hm := lookup_mem hl
  refine ⟨M, ?_⟩
  generalize hod : (boxData b).1 = od
  generalize hrd : (boxData b).2 = rd
  let bx' := (s.bx.filter fun p => !(p.1 == id)).map fun p => (p.1, p.2.freeze id od rd)
  have hmem : ∀ p ∈ bx', p.1 ≠ id ∧ ∃ b', (p.1, b') ∈ s.bx ∧ p.2 = b'.freeze id od rd := by
    intro p hp
    simp only [bx', List.mem_map, List.mem_filter] at hp
    obtain ⟨q, ⟨hq, hne⟩, rfl⟩ := hp
    exact ⟨by simpa using hne, q.2, hq, rfl⟩
  have hblk : ∀ p ∈ bx', ∀ k, boxBlk M p = some k → ∃ q ∈ s.bx, boxBlk M q = some k ∧ q.1 = p.1 := by
    intro p hp k hk
    obtain ⟨hne, b', hb', he⟩ := hmem p hp
    obtain ⟨i, bb⟩ := p
    simp only at he
    subst he
    rw [boxBlk_freeze] at hk
    exact ⟨_, hb', hk, rfl⟩
  have hsub : ∀ k, Av E.A0 M bx' k → Av E.A0 M s.bx k ∧ boxBlk M (id, b) ≠ some k := by
    rintro k (hk | ⟨p, hp, hk⟩)
    · refine ⟨.inl hk, fun hb => ?_⟩
      have h1 := (h.boxes.new _ hm k hb).1
      have h2 := h.boxes.foreign k hk
      rcases h1 with h1 | h1
      · exact h2.2 h1
      · have := h2.1; omega
    · obtain ⟨q, hq, hqk, hqi⟩ := hblk p hp k hk
      refine ⟨.inr ⟨q, hq, hqk⟩, fun hb => ?_⟩
      have := blks_inj h.boxes.blks q hq _ hm k hqk hb
      rw [this] at hqi
      exact (hmem p hp).1 hqi.symm
  have hk : Keeps w (Av E.A0 M s.bx) w (Av E.A0 M bx') := Keeps.sub fun k hk => (hsub k hk).1
  have h1 : ∀ d, od = some d → RelD w (Av E.A0 M bx') d (M.rv id) := by
    intro d hd
    cases b with
    | var cs => simp [boxData] at hod; rw [← hod] at hd; cases hd
    | map Q k e m => simp [boxData] at hod; rw [← hod] at hd; cases hd
    | obj p => simp [boxData] at hod; rw [← hod] at hd; cases hd
    | mapl Q k l => simp [boxData] at hod; rw [← hod] at hd; cases hd
    | nest e es c => simp [boxData] at hod; rw [← hod] at hd; cases hd
    | row e sz es =>
      simp only [boxData] at hod
      rw [← hod] at hd
      cases hd
      exact row_rel _ (fun k hk => ⟨(hsub k hk).1, by have := (hsub k hk).2; simpa [boxBlk] using this⟩) (h.boxes.ok id _ hm)
  have h2 : ∀ ds, rd = some ds → ∀ o, RelD w (Av E.A0 M bx') (.ptr (ds.drop o)) (.pointer (some ⟨M.blk id, o, none⟩)) := by
    intro ds hds o
    cases b with
    | row e sz es => simp [boxData] at hrd; rw [← hrd] at hds; cases hds
    | map Q k e m => simp [boxData] at hrd; rw [← hrd] at hds; cases hds
    | obj p => simp [boxData] at hrd; rw [← hrd] at hds; cases hds
    | mapl Q k l => simp [boxData] at hrd; rw [← hrd] at hds; cases hds
    | nest e es c => simp [boxData] at hrd; rw [← hrd] at hds; cases hds
    | var cs =>
      simp only [boxData] at hrd
      rw [← hrd] at hds
      have hcs := allDat_map cs ds hds
      obtain ⟨arr, T, hg, hc⟩ := h.boxes.ok id _ hm
      have hnot : ¬ Av E.A0 M bx' (M.blk id) := fun hb => (hsub _ hb).2 rfl
      have hcell : ∀ (j : Nat) (c : D), ds[j]? = some c → ∃ u, arr[j]? = some u ∧ RelD w (Av E.A0 M bx') c u := by
        intro j c hj
        obtain ⟨u, hu, hr⟩ := hc.2 j (.dat c) (by rw [hcs, List.getElem?_map, hj]; rfl)
        exact ⟨u, hu, RelD.mono hk hr⟩
      refine .ptr _ (M.blk id) o (fun j => arr.getD (o + j) undef) (fun j c hj => ?_) (fun j c hj => ?_)
      · rw [List.getElem?_drop] at hj
        obtain ⟨u, hu, _⟩ := hcell _ c hj
        exact ⟨hnot, by rw [cell_of_row w _ _ arr T (0, 0) hg]; simp [hu]⟩
      · rw [List.getElem?_drop] at hj
        obtain ⟨u, hu, hr⟩ := hcell _ c hj
        simpa [hu] using hr
  refine ⟨h.defers, by simp [h.size], fun t l hl' => ?_, ?_⟩
  · simp only [List.getElem?_map, Option.map_eq_some_iff] at hl'
    obtain ⟨l', hl2, rfl⟩ := hl'
    exact LV.freeze_rel h1 h2 ((h.slots t l' hl2).mono hk)
  · refine {
      ok := fun i b' hb => ?_
      ids := ?_
      blks := ?_
      new := fun p hp k hpk => ?_
      foreign := h.boxes.foreign
      frame := h.boxes.frame
      old := fun p hp hlt => ?_ }
    · obtain ⟨hne, b0, hb0, he⟩ := hmem _ hb
      simp only at he
      subst he
      have hok := (h.boxes.ok i b0 hb0).mono hk (fun _ _ => rfl)
      cases b0 with
      | var cs =>
        obtain ⟨arr, T, g1, g2⟩ := hok
        exact ⟨arr, T, g1, cells_freeze h1 h2 g2⟩
      | row e sz es => exact hok
      | map Q k e m => exact hok
      | obj p => exact hok
      | mapl Q k l => exact hok
      | nest e es c =>
        obtain ⟨xs, v, g1, g2, g3, g4, g5, g6⟩ := hok
        exact ⟨xs, v, g1, g2, g3, g4, C.freeze_rel h1 h2 g5, g6⟩
    · have : bx'.map (·.1) = (s.bx.filter fun p => !(p.1 == id)).map (·.1) := by simp [bx', List.map_map]
      show (bx'.map (·.1)).Nodup
      rw [this]
      exact (h.boxes.ids.sublist ((List.filter_sublist).map _))
    · have : bx'.filterMap (boxBlk M) = (s.bx.filter fun p => !(p.1 == id)).filterMap (boxBlk M) := by
        simp only [bx', List.filterMap_map]
        refine filterMap_congr' fun p _ => ?_
        show boxBlk M (p.1, p.2.freeze id od rd) = boxBlk M p
        rw [boxBlk_freeze]
      show (bx'.filterMap (boxBlk M)).Nodup
      rw [this]
      exact h.boxes.blks.sublist ((List.filter_sublist).filterMap _)
    · obtain ⟨q, hq, hqk, _⟩ := hblk p hp k hpk
      exact h.boxes.new q hq k hqk
    · obtain ⟨hne, b0, hb0, he⟩ := hmem p hp
      exact h.boxes.old (p.1, b0) hb0 hlt
end
end Go.DL

/-
  The data-level framework, part q: states written sparsely, and the rules as a program types them. Generic in the program; no condition.
-/
set_option linter.unusedVariables false
set_option linter.unusedSimpArgs false
namespace Go.DL
open Go.RowKit

abbrev J : LV := .one .junk
abbrev dt (d : D) : LV := .one (.dat d)
abbrev I (n : Int) : D := .int .i64 n
abbrev B (b : Bool) : D := .bool b
abbrev nilS : D := .con (.slice none 0 0)

/-- A state of n slots, of which those that are listed hold something. -/
def mk (n : Nat) (l : List (Nat × LV)) (bx : List (Nat × Box)) : DS := ⟨(List.range n).map fun i => (l.lookup i).getD J, bx⟩

def maskL (live : List Nat) : List LV → Nat → List LV
  | [], _ => []
  | l :: ls, i => (match live.contains i with | true => l | false => J) :: maskL live ls (i + 1)

def DS.prune (live dead : List Nat) (s : DS) : DS := dead.foldl (fun s i => s.drop i) ⟨maskL live s.sl 0, s.bx⟩

theorem maskL_length (live : List Nat) : ∀ (ls : List LV) (i : Nat), (maskL live ls i).length = ls.length
  | [], _ => rfl
  | _ :: ls, i => by simp [maskL, maskL_length live ls]

theorem maskL_get (live : List Nat) : ∀ (ls : List LV) (i t : Nat) (l : LV), (maskL live ls i)[t]? = some l → l = J ∨ ls[t]? = some l
  | [], _, t, l, h => by simp [maskL] at h
  | x :: ls, i, 0, l, h => by
    simp only [maskL, List.getElem?_cons_zero, Option.some.injEq] at h
    split at h
    · exact .inr (by simpa using h)
    · exact .inl h.symm
  | x :: ls, i, t + 1, l, h => by simpa using maskL_get live ls (i + 1) t l (by simpa [maskL] using h)

theorem DS.le_prune (s : DS) (live dead : List Nat) : s.Le (s.prune live dead) := by
  have h1 : s.Le ⟨maskL live s.sl 0, s.bx⟩ := by
    intro E M w a h
    refine ⟨M, h.defers, by rw [h.size]; exact (maskL_length _ _ _).symm, fun t l hl => ?_, h.boxes⟩
    rcases maskL_get _ _ _ _ _ hl with rfl | hl'
    · trivial
    · exact h.slots t l hl'
  unfold DS.prune
  generalize (⟨maskL live s.sl 0, s.bx⟩ : DS) = s1 at h1 ⊢
  induction dead generalizing s1 with
  | nil => exact h1
  | cons i l ih => exact ih _ (h1.trans (DS.le_drop s1 i))

theorem DS.le_of_eq {s s' : DS} (h : s = s') : s.Le s' := h ▸ DS.Le.refl s

/-- Freezing boxes, one after the other, and then forgetting. -/
def DS.ice (ids : List Nat) (s : DS) : DS := ids.foldl (fun s i => s.freeze i) s

theorem DS.le_ice (s : DS) (ids : List Nat) : s.Le (s.ice ids) := by
  unfold DS.ice
  have : ∀ (ids : List Nat) (s1 : DS), s.Le s1 → s.Le (ids.foldl (fun s i => s.freeze i) s1) := by
    intro ids
    induction ids with
    | nil => exact fun _ h => h
    | cons i l ih => exact fun s1 h => ih _ (h.trans (DS.le_freeze s1 i))
  exact this ids s (DS.Le.refl s)

section
variable {P : Program} {base id : Nat} {l : List Oper} {Q : DX → DS → Prop} {s : DS}

/-- The way through a region, with what is kept behind it. -/
def way (P : Program) (base : Nat) (l : List Oper) (hs : List Hint) (live dead : List Nat) (s : DS) : Option (Prop × DS) :=
  (dexec P base l.toArray l hs s).map fun r => (r.1, r.2.prune live dead)

def wayD (P : Program) (base : Nat) (l : List Oper) (n : Nat) (hs : List Hint) (live dead : List Nat) (s : DS) : Option (Prop × DS) :=
  (dexecDraw P base l n hs s).map fun r => (r.1, r.2.prune live dead)

theorem T_reg (hs : List Hint) (live dead : List Nat) (s' : DS) (side : Prop) (h : way P base l hs live dead s = some (side, s')) (hside : side) {y : Code} (hq : T P base y Q s') : T P base (.seq (.region id l.toArray false) y) Q s := by
  unfold way at h
  simp only [Option.map_eq_some_iff, Prod.mk.injEq] at h
  obtain ⟨⟨sd, s1⟩, h1, rfl, rfl⟩ := h
  exact T_seq (T_region hs s1 sd h1 hside (T_le (DS.le_prune s1 live dead) hq))

theorem T_regD (n : Nat) (hs : List Hint) (live dead : List Nat) (s' : DS) (side : Prop) (hm : P.follows .mixedOrders = true) (hok : drawOk l.toArray n = true) (h : wayD P base l n hs live dead s = some (side, s')) (hside : side) {y : Code} (hq : T P base y Q s') : T P base (.seq (.region id l.toArray true) y) Q s := by
  unfold wayD at h
  simp only [Option.map_eq_some_iff, Prod.mk.injEq] at h
  obtain ⟨⟨sd, s1⟩, h1, rfl, rfl⟩ := h
  exact T_seq (T_draw n hs s1 sd hm hok h1 hside (T_le (DS.le_prune s1 live dead) hq))

/-- The last region of a piece. -/
theorem T_regE (hs : List Hint) (s' : DS) (side : Prop) (h : dexec P base l.toArray l hs s = some (side, s')) (hside : side) (hq : Q .normal s') : T P base (.region id l.toArray false) Q s := T_region hs s' side h hside hq

theorem T_regDE (n : Nat) (hs : List Hint) (s' : DS) (side : Prop) (hm : P.follows .mixedOrders = true) (hok : drawOk l.toArray n = true) (h : dexecDraw P base l n hs s = some (side, s')) (hside : side) (hq : Q .normal s') : T P base (.region id l.toArray true) Q s := T_draw n hs s' side hm hok h hside hq

/-- The state is written otherwise, some boxes frozen, and the rest forgotten. -/
theorem T_turn {c : Code} (ice live dead : List Nat) (s' : DS) (h : (s.ice ice).prune live dead = s') (hq : T P base c Q s') : T P base c Q s :=
  T_le ((DS.le_ice s ice).trans ((DS.le_prune _ live dead).trans (DS.le_of_eq h))) hq

theorem le_turn (ice live dead : List Nat) {s s' : DS} (h : (s.ice ice).prune live dead = s') : s.Le s' :=
  (DS.le_ice s ice).trans ((DS.le_prune _ live dead).trans (DS.le_of_eq h))

theorem ret_here {fn : Func} {d : D} (ls : List LV) (h : dres P s fn.results.toList = some ls) (hf : resFit s.bx ls d) : retPost P fn d .ret s := ⟨ls, h, hf⟩
end

theorem bne_f {x y : Int} (h : (x != y) = false) : x = y := by simpa using h

theorem i64_wrap {x : Int} (h1 : -9223372036854775808 ≤ x) (h2 : x ≤ 9223372036854775807) : IntKind.i64.wrap x = x := by
  rw [IntKind.wrap_i64]; omega

end Go.DL

/-
  The data-level framework, part r: regions in parts, with calls that are entered and tests that data do not decide. Generic in the program; no condition.
-/
set_option linter.unusedVariables false
set_option linter.unusedSimpArgs false
namespace Go.DL
open Go.RowKit

section
variable {P : Program} {base id : Nat} {Q : DX → DS → Prop} {s : DS}

/-- Some operations of a region are run at once; what follows is cut off the list. -/
theorem TL_part {ops : Array Oper} {l : List Oper} (n : Nat) (hs : List Hint) (s' : DS) (side : Prop) (h : dexec P base ops (l.take n) hs s = some (side, s')) (hside : side) {l2 : List Oper} (hl : l.drop n = l2) (hq : TL P base ops l2 Q s') : TL P base ops l Q s := by
  subst hl
  have := TL_append (P := P) (base := base) (Q := Q) (ops := ops) (l.take n) (l.drop n) hs s s' side h hside hq
  rwa [List.take_append_drop] at this

theorem TL_turn {ops : Array Oper} {l : List Oper} (ice live dead : List Nat) (s' : DS) (h : (s.ice ice).prune live dead = s') (hq : TL P base ops l Q s') : TL P base ops l Q s :=
  TL_le ((DS.le_ice s ice).trans ((DS.le_prune _ live dead).trans (DS.le_of_eq h))) hq

theorem T_parts {l : List Oper} (hq : TL P base l.toArray l Q s) : T P base (.region id l.toArray false) Q s :=
  fun E M w a hb hst => wp_region_lit (hq E M w a hb hst)

theorem TL_nilQ {ops : Array Oper} (h : Q .normal s) : TL P base ops [] Q s := TL_all [] s True rfl trivial h

/-- The test of a slice against nil, where its data do not tell: both ways are to be walked; if it is nil it is empty. -/
theorem TL_nil {ops : Array Oper} {o : Oper} {l : List Oper} {t t2 : TypeId} {x : Operand} {sz : Nat} {es : List D}
    (ho : o.op = .binOp .eql t x (.const (.slice none 0 0)) t2) (hg : o.guard = none) (ht : ∃ e, P.underlying t = some (.slice e)) (hx : s.ev x = .one (.dat (.sl sz es)))
    (h : ∀ b : Bool, (b = true → es = []) → TL P base ops l Q (s.put o.dst (dt (.bool b)))) : TL P base ops (o :: l) Q s := by
  intro E M w a hE hst
  refine wpList_plain hg fun K hK => ?_
  have hr := ev_rel hst.size hst.slots x
  rw [hx] at hr
  obtain ⟨e, hu⟩ := ht
  have key : ∃ ad n c, a.eval x = .slice ad n c ∧ (ad.isNone = true → es = []) := by
    generalize a.eval x = v at hr ⊢
    simp only [LV.rel, C.rel] at hr
    cases hr with
    | sl _ _ b off cap vs => exact ⟨_, _, _, rfl, fun h => by simp at h⟩
    | sl0 _ ad c _ => exact ⟨ad, 0, c, rfl, fun _ => rfl⟩
  obtain ⟨ad, n, c, hv, hn⟩ := key
  refine PStep.of_run (lv := dt (.bool ad.isNone)) (v := .bool ad.isNone) (A := Av E.A0 M s.bx) (M := M) ?_ (RelD.bool _) K _ fun v w' hw hl => ?_
  · have e1 : a.eval (.const (.slice none 0 0)) = .slice none 0 0 := rfl
    have hg' := run_eqGuard_plain (P := P) (w := w) .eql t x (.const (.slice none 0 0)) (.slice ad n c) (.slice none 0 0) (by simp) (by simp)
    rw [execOp, ho]
    simp only [hv, e1, Sem.run_bind, hg', Result.andThen_ok]
    simp [binOp, Op.equal, Op.maxDepth, equal_nil 9999 t e hu]
  · exact hK _ _ (h ad.isNone hn E M w' _ hE ((hst.below hw).put o.dst hl))
end
end Go.DL

/-
  The data-level framework, part s: a nil slice that is to grow is taken as an empty row of the call's own. Generic in the program; no condition.
-/
set_option linter.unusedVariables false
set_option linter.unusedSimpArgs false
namespace Go.DL
open Go.RowKit

def DS.ownSlot (t id : Nat) (e : TypeId) (sz : Nat) (s : DS) : Option DS :=
  match (s.drop id).sl[t]? with
  | some (.one (.dat (.con (.slice none 0 0)))) => some { ((s.drop id).push id (.row e sz [])) with sl := (s.drop id).sl.set t (.one (.own id)) }
  | _ => none

def DS.ownCell (i off id : Nat) (e : TypeId) (sz : Nat) (s : DS) : Option DS :=
  match ((s.drop id).push id (.row e sz [])).bx.lookup i with
  | some (.var cs) => match cs[off]? with
    | some (.dat (.con (.slice none 0 0))) => some (((s.drop id).push id (.row e sz [])).setBox i (.var (cs.set off (.own id))))
    | _ => none
  | _ => none

section
variable {P : Program} {w : World} {M : BMap} {base : Nat} {Q : DX → DS → Prop} {s : DS}

theorem St.pushNil {E : Env} {a : Act} (h : St E M w a s) (id : Nat) (e : TypeId) (sz : Nat) (hb : E.base ≤ id) :
    St E (M.upd id 0 (.slice none 0 0) sz) w a ((s.drop id).push id (.row e sz [])) := by
  refine StA.push (h.toA.drop id 0 (.slice none 0 0) sz) drop_free hb (row := none) ⟨rfl, rfl, rfl, Nat.le_refl _, fun _ _ _ => rfl⟩ (fun k hk => by cases hk) (fun b hb => Av_drop hb) (fun k hk => ?_) fun A' _ => ?_
  · simp [boxBlk, BMap.upd, Value.ownBlock] at hk
  · refine ⟨[], ⟨by simp, .inl ⟨by simp [BMap.upd], rfl⟩⟩, by simp, by simp [BMap.upd], fun j c hj => by simp [flat] at hj, fun k hk => by simp [BMap.upd, Value.ownBlock] at hk⟩

theorem nil_rel {A : Nat → Prop} {v : Value} (h : RelD w A (.con (.slice none 0 0)) v) : v = .slice none 0 0 := by cases h; rfl

theorem T_ownCell {c : Code} (i off id : Nat) (e : TypeId) (sz : Nat) (s' : DS) (h : s.ownCell i off id e sz = some s') (hb : Nat.ble base id = true) (hq : T P base c Q s') : T P base c Q s := by
  intro E M w a hE hst
  unfold DS.ownCell at h
  split at h
  · rename_i cs hl
    split at h
    · rename_i hc
      simp only [Option.some.injEq] at h
      subst h
      have h1 := hst.pushNil id e sz (by rw [hE]; exact Nat.le_of_ble_eq_true hb)
      have hm := lookup_mem hl
      refine hq E _ w a hE (h1.setBox (b := .var (cs.set off (.own id))) hm rfl ⟨rfl, rfl, rfl, Nat.le_refl _, fun _ _ _ => rfl⟩ fun A' hA' => ?_)
      obtain ⟨arr, T, hg, hcr⟩ := h1.boxes.ok i _ hm
      refine ⟨arr, T, hg, by rw [hcr.1, List.length_set], fun j c hj => ?_⟩
      rw [List.getElem?_set] at hj
      split at hj
      · rename_i he
        subst he
        split at hj
        · cases hj
          obtain ⟨u, hu, hr⟩ := hcr.2 off _ hc
          simp only [C.rel] at hr
          exact ⟨u, hu, by rw [nil_rel hr]; simp [C.rel, BMap.upd]⟩
        · cases hj
      · obtain ⟨u, hu, hr⟩ := hcr.2 j c hj
        exact ⟨u, hu, hr.mono hA'⟩
    · cases h
  · cases h
end
end Go.DL

/-
  The data-level framework, part t: regions that draw their order and hold one allocation, which may come at any time. Generic in the program; no condition.
-/
set_option linter.unusedVariables false
set_option linter.unusedSimpArgs false
namespace Go.DL
open Go.RowKit

section
variable {P : Program} {w : World} {A : Nat → Prop} {M : BMap}

end
end Go.DL

/-
  The data-level framework, part u: copy at elements of any number of cells, into a plain row. Generic in the program; no condition.
-/
set_option linter.unusedVariables false
set_option linter.unusedSimpArgs false
namespace Go.DL
open Go.RowKit

variable {P : Program}

end Go.DL

/-
  The data-level framework, part v: slices.Insert into an own row. Generic in the program; no condition.
-/
set_option linter.unusedVariables false
set_option linter.unusedSimpArgs false
namespace Go.DL
open Go.RowKit

section
variable {P : Program} {w : World} {A : Nat → Prop} {M : BMap}

end
end Go.DL

/-
  The data-level framework, part w: nil slices read as empty data: in a state, and as a call's arguments. Generic in the program; no condition.
-/
set_option linter.unusedVariables false
set_option linter.unusedSimpArgs false
namespace Go.DL
open Go.RowKit

def C.unnil (sz : Nat) : C → C
  | .dat (.con (.slice none 0 0)) => .dat (.sl sz [])
  | c => c
def LV.unnil (j sz : Nat) : LV → LV
  | .one c => .one (c.unnil sz)
  | .agg cs => .agg (cs.modify j (C.unnil sz))
  | l => l
def DS.unnil (t j sz : Nat) (s : DS) : DS := { s with sl := s.sl.modify t (LV.unnil j sz) }

theorem nil_sl {w : World} {A : Nat → Prop} {v : Value} (sz : Nat) (h : RelD w A (.con (.slice none 0 0)) v) : RelD w A (.sl sz []) v := by
  cases h; exact .sl0 sz none 0 (fun _ => rfl)

section
variable {P : Program} {w : World} {A : Nat → Prop} {M : BMap} {base : Nat} {Q : DX → DS → Prop} {s : DS}

theorem C.unnil_rel {sz : Nat} {c : C} {v : Value} (h : C.rel w A M c v) : C.rel w A M (c.unnil sz) v := by
  unfold C.unnil
  split
  · exact nil_sl sz h
  · exact h

theorem LV.unnil_rel {j sz : Nat} {l : LV} {v : Value} (h : LV.rel w A M l v) : LV.rel w A M (l.unnil j sz) v := by
  unfold LV.unnil
  split
  · exact C.unnil_rel h
  · obtain ⟨arr, h1, h2, h3⟩ := h
    refine ⟨arr, h1, by simp [h2], fun k c hk => ?_⟩
    rw [List.getElem?_modify] at hk
    simp only [Option.map_eq_map, Option.map_eq_some_iff] at hk
    obtain ⟨c', hc', rfl⟩ := hk
    obtain ⟨u, hu, hr⟩ := h3 k c' hc'
    refine ⟨u, hu, ?_⟩
    split
    · exact C.unnil_rel hr
    · exact hr
  · exact h

theorem DS.le_unnil (s : DS) (t j sz : Nat) : s.Le (s.unnil t j sz) := by
  intro E M w a h
  refine ⟨M, h.defers, by simp [DS.unnil, h.size], fun k l hk => ?_, h.boxes⟩
  simp only [DS.unnil, List.getElem?_modify, Option.map_eq_map, Option.map_eq_some_iff] at hk
  obtain ⟨l', hl', rfl⟩ := hk
  have := h.slots k l' hl'
  simp only [DS.unnil]
  split
  · exact LV.unnil_rel this
  · exact this

/-- Whatever reads as d' reads as d. -/
def Weak (d d' : D) : Prop := ∀ (w : World) (A : Nat → Prop) (v : Value), RelD w A d' v → RelD w A d v
theorem Weak.refl (d : D) : Weak d d := fun _ _ _ h => h
theorem Weak.nil (sz : Nat) : Weak (.sl sz []) (.con (.slice none 0 0)) := fun _ _ _ h => nil_sl sz h
def AllWeak : List D → List D → Prop
  | [], [] => True
  | d :: ds, d' :: ds' => Weak d d' ∧ AllWeak ds ds'
  | _, _ => False
theorem AllWeak.length : ∀ {ds ds' : List D}, AllWeak ds ds' → ds.length = ds'.length
  | [], [], _ => rfl
  | _ :: _, _ :: _, h => by simp [AllWeak.length h.2]
  | [], _ :: _, h => h.elim
  | _ :: _, [], h => h.elim
theorem AllWeak.get : ∀ {ds ds' : List D}, AllWeak ds ds' → ∀ (j : Nat) (d : D), ds[j]? = some d → ∃ d', ds'[j]? = some d' ∧ Weak d d'
  | _ :: _, d' :: _, h, 0, d, hj => by simp at hj; subst hj; exact ⟨d', rfl, h.1⟩
  | _ :: ds, _ :: ds', h, j + 1, d, hj => by simpa using AllWeak.get h.2 j d (by simpa using hj)
  | [], [], _, _, _, hj => by simp at hj
  | [], _ :: _, h, _, _, _ => h.elim
  | _ :: _, [], h, _, _, _ => h.elim
theorem Weak.agg {ds ds' : List D} (h : AllWeak ds ds') : Weak (.agg ds) (.agg ds') := by
  intro w A v hr
  cases hr with
  | agg _ arr hs vs hv hrel =>
    refine .agg ds arr (by rw [hs, h.length]) vs (fun j c hj => ?_) (fun j c hj => ?_)
    · obtain ⟨d', hd', _⟩ := h.get j c hj; exact hv j d' hd'
    · obtain ⟨d', hd', hw⟩ := h.get j c hj; exact hw _ _ _ (hrel j d' hd')
theorem Ret.weak {f : FuncId} {ds ds' : List D} {d : D} (hr : Ret P f ds d) (h : AllWeak ds ds') : Ret P f ds' d := by
  refine ⟨hr.1, fun w A vs hA hs hv => hr.2 w A vs hA (by rw [hs, h.length]) fun j c hj => ?_⟩
  obtain ⟨d', hd', hw⟩ := h.get j c hj
  obtain ⟨u, hu, hrel⟩ := hv j d' hd'
  exact ⟨u, hu, hw _ _ _ hrel⟩
end
end Go.DL

/-
  The data-level framework, part x: regions that draw their order and hold one allocation and one store into what it made. Generic in the program; no condition.
-/
set_option linter.unusedVariables false
set_option linter.unusedSimpArgs false
namespace Go.DL
open Go.RowKit

section
variable {P : Program} {w : World} {A : Nat → Prop} {M : BMap}

theorem Ret.to {f : FuncId} {ds : List D} {d d' : D} (h : Ret P f ds d) (e : d = d') : Ret P f ds d' := e ▸ h
end
end Go.DL

/-
  The bridge from the data-level framework to a law's row: what an argument of a given type reads as, and what a returned bool says. Generic in the program; no condition.
-/
set_option linter.unusedVariables false
set_option linter.unusedSimpArgs false
namespace Go.DL
open Go.RowKit Go.ChangeShapes Go.WideShapes

/-- Whatever is read at type t, in any world, stands for a datum of α, laid as cells; Good is what the law of sizes says of it. -/
def Dec (P : Program) (t : TypeId) {α : Type} (cells : α → List D) (Good : α → Prop) : Prop :=
  ∀ (H : Type) (enc : TypeId × Value → H) (w : World) (fuel : Nat) (cs : List Value) (d : DataW H) (ps : List MemPlace), DataW.trod enc P w 0 (fun _ => true) true fuel t cs = some (d, ps) →
    ∃ a : α, cs.length = (cells a).length ∧ (∀ (j : Nat) (c : D), (cells a)[j]? = some c → ∃ v, cs[j]? = some v ∧ RelD w (fun _ => False) c v) ∧ ((∀ n ∈ d.weights P t, n ≤ reachBytes) → Good a)

/-- The same of the fields of a struct, from a place on. -/
def DecFs (P : Program) (off : Nat) (L : List (TypeId × Nat)) {α : Type} (cells : α → List D) (Good : α → Prop) : Prop :=
  ∀ (H : Type) (enc : TypeId × Value → H) (w : World) (n : Nat) (cs : List Value) (xs : List (DataW H × List MemPlace)), xs.length = L.length →
    (∀ (i : Nat) (t : TypeId) (o : Nat), L[i]? = some (t, o) → DataW.trod enc P w 0 (fun _ => true) true n t ((cs.drop o).take (P.cellsOf t)) = xs[i]?) →
    ∃ a : α, (∀ (j : Nat) (c : D), (cells a)[j]? = some c → ∃ v, cs[off + j]? = some v ∧ RelD w (fun _ => False) c v) ∧ ((∀ m ∈ DataW.weightsEach P (L.map (·.1)) (xs.map (·.1)), m ≤ reachBytes) → Good a)

def fieldsOf (P : Program) (t : TypeId) : Option (List (TypeId × Nat)) :=
  match P.underlying t with
  | some (.struct fs) => some (fs.toList.map fun f => (f.type, f.offset))
  | _ => none

section
variable {P : Program}

theorem Dec.map {t : TypeId} {α β : Type} {cells : α → List D} {Good : α → Prop} (h : Dec P t cells Good) (f : α → β) (cells' : β → List D) (Good' : β → Prop) (hc : ∀ a, cells' (f a) = cells a) (hg : ∀ a, Good a → Good' (f a)) : Dec P t cells' Good' := by
  intro H enc w fuel cs d ps hd
  obtain ⟨a, h1, h2, h3⟩ := h H enc w fuel cs d ps hd
  exact ⟨f a, by rw [hc]; exact h1, by rw [hc]; exact h2, fun hw => hg a (h3 hw)⟩

theorem one_get {w : World} {A : Nat → Prop} {d : D} {v : Value} (h : RelD w A d v) : ∀ (j : Nat) (c : D), [d][j]? = some c → ∃ u, [v][j]? = some u ∧ RelD w A c u := by
  intro j c hj
  cases j with
  | zero => simp at hj; subst hj; exact ⟨v, rfl, h⟩
  | succ j => simp at hj

theorem Dec.int {t : TypeId} {k : IntKind} (ht : P.underlying t = some (.int k)) : Dec P t (fun n : Int => [.int k n]) (fun n => (Lit.int k n).wf = true) := by
  intro H enc w fuel cs d ps hd
  obtain ⟨n, rfl, _, hwf⟩ := DataW.trod_int ht hd
  exact ⟨n, rfl, one_get (.int _ _), fun _ => hwf⟩

theorem Dec.bool {t : TypeId} (ht : P.underlying t = some .bool) : Dec P t (fun b : Bool => [.bool b]) (fun _ => True) := by
  intro H enc w fuel cs d ps hd
  obtain ⟨b, rfl, _⟩ := DataW.trod_bool ht hd
  exact ⟨b, rfl, one_get (.bool _), fun _ => trivial⟩

theorem DecFs.nil (off : Nat) : DecFs P off [] (fun _ : Unit => []) (fun _ => True) :=
  fun _ _ _ _ _ _ _ _ => ⟨(), by simp, fun _ => trivial⟩

theorem DecFs.cons {off : Nat} {t : TypeId} {L : List (TypeId × Nat)} {α β : Type} {ct : α → List D} {Gt : α → Prop} {cells : β → List D} {Good : β → Prop} (sz : Nat) (hsz : P.cellsOf t = sz) (h1 : Dec P t ct Gt) (hc : ∀ a, (ct a).length = sz)
    (h2 : DecFs P (off + sz) L cells Good) : DecFs P off ((t, off) :: L) (fun p : α × β => ct p.1 ++ cells p.2) (fun p => Gt p.1 ∧ Good p.2) := by
  intro H enc w n cs xs hl hx
  cases xs with
  | nil => simp at hl
  | cons x xs =>
    obtain ⟨d, ps⟩ := x
    have h0 := hx 0 t off rfl
    simp only [List.getElem?_cons_zero] at h0
    obtain ⟨a, g1, g2, g3⟩ := h1 H enc w n _ d ps h0
    obtain ⟨b, k1, k2⟩ := h2 H enc w n cs xs (by simpa using hl) (fun i t' o hi => by simpa using hx (i + 1) t' o (by simpa using hi))
    refine ⟨(a, b), fun j c hj => ?_, fun hw => ⟨g3 fun m hm => hw m ?_, k2 fun m hm => hw m ?_⟩⟩
    · simp only [List.getElem?_append, hc] at hj
      split at hj
      · obtain ⟨v, hv, hr⟩ := g2 j c hj
        refine ⟨v, ?_, hr⟩
        rw [List.getElem?_take] at hv
        split at hv
        · rwa [List.getElem?_drop] at hv
        · cases hv
      · obtain ⟨v, hv, hr⟩ := k1 _ c hj
        exact ⟨v, by rw [← hv]; congr 1; omega, hr⟩
    · simp only [List.map_cons, DataW.weightsEach]
      exact List.mem_append_left _ hm
    · simp only [List.map_cons, DataW.weightsEach]
      exact List.mem_append_right _ hm

theorem Dec.struct {t : TypeId} {L : List (TypeId × Nat)} {α : Type} {cells : α → List D} {Good : α → Prop} (sz : Nat) (hsz : P.cellsOf t = sz) (hf : fieldsOf P t = some L) (h : DecFs P 0 L cells Good) (hc : ∀ a, (cells a).length = sz) : Dec P t cells Good := by
  intro H enc w fuel cs d ps hd
  unfold fieldsOf at hf
  split at hf
  · rename_i fs ht
    simp only [Option.some.injEq] at hf
    obtain ⟨xs, n, _, hx, hlen, hxl, hall⟩ := DataW.trod_struct ht hd
    obtain ⟨a, h1, h2⟩ := h H enc w n cs xs (by rw [← hf]; simpa using hxl) (fun i t' o hi => by
      rw [← hf, List.getElem?_map, Option.map_eq_some_iff] at hi
      obtain ⟨f, hfi, he⟩ := hi
      cases he
      exact hall i f (by simpa using hfi))
    refine ⟨a, by rw [hlen, hsz, hc], fun j c hj => by simpa using h1 j c hj, fun hw => h2 fun m hm => hw m ?_⟩
    have : d = .agg (xs.map (·.1)) := congrArg Prod.fst hx
    rw [this]
    simp only [DataW.weights, ht]
    rw [← hf, List.map_map] at hm
    exact hm
  · cases hf

theorem weightsAll_mem {H : Type} {e : TypeId} {x : DataW H} {m : Nat} : ∀ {l : List (DataW H)}, x ∈ l → m ∈ x.weights P e → m ∈ DataW.weightsAll P e l
  | y :: l, hx, hm => by
    simp only [DataW.weightsAll, List.mem_append]
    rcases List.mem_cons.1 hx with rfl | hx
    · exact .inl hm
    · exact .inr (weightsAll_mem hx hm)

theorem flat_split {sz : Nat} (hpos : 0 < sz) : ∀ {es : List D} {j : Nat} {c : D}, (∀ e ∈ es, e.cells.length = sz) → (flat es)[j]? = some c → ∃ e, es[j / sz]? = some e ∧ e.cells[j % sz]? = some c
  | [], j, c, _, h => by simp [flat] at h
  | e :: es, j, c, hu, h => by
    have he := hu e List.mem_cons_self
    simp only [flat, List.flatMap_cons, List.getElem?_append, he] at h
    split at h
    · rename_i hlt
      exact ⟨e, by rw [Nat.div_eq_of_lt hlt]; rfl, by rw [Nat.mod_eq_of_lt hlt]; exact h⟩
    · rename_i hge
      obtain ⟨e', h1, h2⟩ := flat_split hpos (fun x hx => hu x (List.mem_cons_of_mem _ hx)) (show (flat es)[j - sz]? = some c from h)
      have hd : j / sz = (j - sz) / sz + 1 := by
        rw [← Nat.sub_add_cancel (Nat.le_of_not_lt hge), Nat.add_div_right _ hpos, Nat.add_sub_cancel]
      have hm : j % sz = (j - sz) % sz := by
        conv => lhs; rw [← Nat.sub_add_cancel (Nat.le_of_not_lt hge)]
        exact Nat.add_mod_right _ _
      exact ⟨e', by rw [hd]; simpa using h1, by rw [hm]; exact h2⟩

theorem Dec.slice {t e : TypeId} {α : Type} {cells : α → List D} {Good : α → Prop} (ht : P.underlying t = some (.slice e)) (sz bytes : Nat) (hsz : P.cellsOf e = sz) (hby : P.bytesOf e = bytes) (hpos : 0 < sz) (h : Dec P e cells Good) (enc : α → D)
    (hce : ∀ a, (enc a).cells = cells a) (hlen : ∀ a, (cells a).length = sz) : Dec P t (fun l : List α => [.sl sz (l.map enc)]) (fun l => l.length * bytes ≤ reachBytes ∧ ∀ a ∈ l, Good a) := by
  intro H en w fuel cs d ps hd
  rcases Go.Deep.open_slice ht hd with ⟨rfl, hx⟩ | ⟨a, len, cap, m, n, Dd, Pl, rfl, _, hlc, hcm, hm, hx, hel⟩
  · refine ⟨[], rfl, one_get (.sl0 sz none 0 fun _ => rfl), fun _ => ⟨by simp, by simp⟩⟩
  · simp only [if_true] at hm
    subst hm
    have hall : ∀ i : Fin len, ∃ b : α, ∃ cs' : List Value, w.cells? 0 (a.add (i.1 * sz)) sz = some cs' ∧ cs'.length = sz ∧
        (∀ (j : Nat) (c : D), (cells b)[j]? = some c → ∃ v, cs'[j]? = some v ∧ RelD w (fun _ => False) c v) ∧ ((∀ n ∈ (Dd i.1).weights P e, n ≤ reachBytes) → Good b) := by
      intro i
      obtain ⟨cs', h1, h2⟩ := hel i.1 (by omega)
      rw [hsz] at h1
      obtain ⟨b, g1, g2, g3⟩ := h H en w n cs' _ _ h2
      exact ⟨b, cs', h1, by rw [g1, hlen], g2, g3⟩
    let f : Fin len → α := fun i => Classical.choose (hall i)
    have hf : ∀ i : Fin len, ∃ cs' : List Value, w.cells? 0 (a.add (i.1 * sz)) sz = some cs' ∧ cs'.length = sz ∧
        (∀ (j : Nat) (c : D), (cells (f i))[j]? = some c → ∃ v, cs'[j]? = some v ∧ RelD w (fun _ => False) c v) ∧ ((∀ n ∈ (Dd i.1).weights P e, n ≤ reachBytes) → Good (f i)) := fun i => Classical.choose_spec (hall i)
    have hll : (List.ofFn f).length = len := by simp
    have hw : (∀ n ∈ d.weights P t, n ≤ reachBytes) → (List.ofFn f).length * bytes ≤ reachBytes ∧ ∀ b ∈ List.ofFn f, Good b := by
      intro hw
      have hd' : d = .slice ((List.range len).map Dd) ((List.range (m - len)).map fun j => Dd (len + j)) := congrArg Prod.fst hx
      rw [hd'] at hw
      simp only [DataW.weights, ht] at hw
      refine ⟨?_, fun b hb => ?_⟩
      · have := hw _ List.mem_cons_self
        simp only [List.length_map, List.length_range, hby] at this
        rw [hll]
        exact Nat.le_trans (Nat.mul_le_mul_right _ (by omega)) this
      · obtain ⟨i, hi⟩ := List.mem_ofFn.1 hb
        obtain ⟨cs', _, _, _, g⟩ := hf i
        rw [← hi]
        refine g fun n hn => hw n (List.mem_cons_of_mem _ (List.mem_append_left _ (weightsAll_mem (x := Dd i.1) (List.mem_map.2 ⟨i.1, by simp, rfl⟩) hn)))
    refine ⟨List.ofFn f, rfl, one_get ?_, hw⟩
    have huni : ∀ x ∈ (List.ofFn f).map enc, x.cells.length = sz := by
      intro x hx
      obtain ⟨b, _, rfl⟩ := List.mem_map.1 hx
      rw [hce, hlen]
    by_cases h0 : len = 0
    · subst h0
      have : (List.ofFn f).map enc = [] := by simp
      rw [this]
      exact .sl0 sz (some a) m (fun h => by cases h)
    · have hspot : a.spot = none := by
        obtain ⟨cs', h1, h2, _⟩ := hf ⟨0, by omega⟩
        obtain ⟨_, _, h3⟩ := World.cells?_some h1
        have := h3 0 hpos
        have hc0 : cs'[0]? = some cs'[0] := List.getElem?_eq_getElem (by omega)
        rw [hc0] at this
        simp only [Nat.zero_mul] at this
        simp only [Addr.add, if_true] at this
        unfold World.cell? at this
        split at this
        · split at this
          · cases this
          · rename_i hs; simpa using hs
        · cases this
      have haddr : ∀ k, a.add k = ⟨a.block, a.off + k, none⟩ := by
        intro k
        unfold Addr.add
        split
        · rename_i hk; subst hk; cases a; simp at hspot; subst hspot; rfl
        · rfl
      have key : ∀ (j : Nat) (c : D), (flat ((List.ofFn f).map enc))[j]? = some c → ∃ v, w.cell? ⟨a.block, a.off + j, none⟩ = some v ∧ RelD w (fun _ => False) c v := by
        intro j c hj
        obtain ⟨x, h1, h2⟩ := flat_split hpos huni hj
        rw [List.getElem?_map, Option.map_eq_some_iff] at h1
        obtain ⟨b, hb, rfl⟩ := h1
        obtain ⟨hlt, he⟩ := List.getElem?_eq_some_iff.1 hb
        rw [List.getElem_ofFn] at he
        rw [hll] at hlt
        obtain ⟨cs', g1, g2, g3, _⟩ := hf ⟨j / sz, hlt⟩
        rw [hce, ← he] at h2
        obtain ⟨v, hv, hr⟩ := g3 _ c h2
        refine ⟨v, ?_, hr⟩
        obtain ⟨_, _, g4⟩ := World.cells?_some g1
        have g5 := g4 (j % sz) (Nat.mod_lt _ hpos)
        rw [Go.Deep.add_add, haddr, hv, Nat.div_add_mod' j sz] at g5
        exact g5
      have hsa : a = ⟨a.block, a.off, none⟩ := by cases a; simp at hspot; subst hspot; rfl
      have hlm : ((List.ofFn f).map enc).length = len := by simp
      rw [hsa]
      have := RelD.sl (w := w) (A := fun _ => False) sz ((List.ofFn f).map enc) a.block a.off m (fun j => (w.cell? ⟨a.block, a.off + j, none⟩).getD undef) (by rw [hlm]; exact hlc) huni
        (fun j c hj => by obtain ⟨v, hv, _⟩ := key j c hj; exact ⟨fun h => h, by rw [hv]; rfl⟩) (fun j c hj => by obtain ⟨v, hv, hr⟩ := key j c hj; rw [hv]; exact hr)
      rwa [hlm] at this

/-! ### arguments -/
theorem arg_one {H : Type} {enc : TypeId × Value → H} {W : World} {base : Nat} {t : TypeId} {v : Value} {d : DataW H} {ps : List MemPlace} {α : Type} {cell : α → D} {Good : α → Prop} (h : Dec P t (fun a => [cell a]) Good) (hd : DataW.Trod enc P W 0 (fun _ => true) true t v d ps)
    (hok : Value.okWide P W .any base t v) (hno : ∀ arr, ¬ Value.okWide P W .any base t (.agg arr)) : ∃ a, RelD W (fun _ => False) (cell a) v ∧ ((∀ n ∈ d.weights P t, n ≤ reachBytes) → Good a) := by
  obtain ⟨fuel, hf⟩ := hd
  obtain ⟨a, h1, h2, h3⟩ := h H enc W fuel _ d ps hf
  obtain ⟨u, hu, hr⟩ := h2 0 (cell a) rfl
  have : v.cells = #[v] := by cases v <;> first | rfl | exact absurd hok (hno _)
  rw [this] at hu
  simp at hu
  subst hu
  exact ⟨a, hr, h3⟩

theorem no_agg_slice {W : World} {base : Nat} {t e : TypeId} (ht : P.underlying t = some (.slice e)) : ∀ arr, ¬ Value.okWide P W .any base t (.agg arr) := by
  intro arr h; simp [Value.okWide, ht, Cell.okWide, Cell.ok] at h
end
end Go.DL

/-
  The bridge, second part: a call that returns true and changes nothing that was there answers a law's row. Generic in the program; no condition.
-/
set_option linter.unusedVariables false
set_option linter.unusedSimpArgs false
namespace Go.DL
open Go.RowKit Go.ChangeShapes Go.WideShapes

section
variable {P : Program}

theorem trodAll_stay {H : Type} {enc : TypeId × Value → H} {W W' : World} {sp : Nat → Bool} (hl : laidOutB P = true) : ∀ {ts : List TypeId} {vs : List Value} {ds : List (DataW H)} {ps : List MemPlace},
    DataW.TrodAll enc P W 0 (fun _ => true) true ts vs ds ps → (∀ t ∈ ts, P.readableRec t = true ∧ t < P.types.size) → (∀ p ∈ ps, W.sameAt W' p) → (∀ p ∈ ps, sp p.block = true) → DataW.TrodAll enc P W' 0 sp true ts vs ds ps
  | [], _, _, _, h, _, _, _ => by
    obtain ⟨rfl, rfl, rfl⟩ := trodAll_nil h
    exact trodAll_mk0
  | t :: ts, _, _, _, h, hr, hs, hp => by
    obtain ⟨v, vs, d, ds, a, b, rfl, rfl, rfl, h1, h2⟩ := trodAll_cons h
    exact ⟨a, b, WideElems.Trod_stays hl (hr t List.mem_cons_self).1 (hr t List.mem_cons_self).2 h1 (fun x hx => hs x (List.mem_append_left _ hx)) (fun x hx => hp x (List.mem_append_left _ hx)),
      trodAll_stay hl h2 (fun t ht => hr t (List.mem_cons_of_mem _ ht)) (fun x hx => hs x (List.mem_append_right _ hx)) (fun x hx => hp x (List.mem_append_right _ hx)), rfl⟩

theorem law_call {H : Type} {enc : TypeId × Value → H} {f : FuncId} {fn : Func} {s : ChangeSpec} {apart fresh handsOn : Bool} {W : World} {args : Array Value} {ds gs : List (DataW H)} {before : List MemPlace}
    (hW : DataW.Whole enc P fn.params.toList s.vars apart W args.toList ds gs before) (hl : laidOutB P = true) (hrec : ∀ t ∈ fn.params.toList, P.readableRec t = true ∧ t < P.types.size) (tb : TypeId) (hrt : fn.resultTypes = #[tb]) (htb : P.underlying tb = some .bool)
    (hv : s.vars = []) (hspec : s.fn H ds = { results := [.lit (.bool true)], args := ds }) (Ds : List D) (hlen : args.size = Ds.length) (hrel : ∀ (j : Nat) (c : D), Ds[j]? = some c → ∃ u, args[j]? = some u ∧ RelD W (fun _ => False) c u) (hret : Ret P f Ds (.bool true)) :
    Calls P f args W fun e W' => ∃ v, e = .returned v ∧ s.post enc P fn apart fresh handsOn false W args v W' := by
  refine (hret.2 W (fun _ => False) args (fun _ h => h.elim) hlen hrel).mono ?_
  rintro e W' ⟨v, rfl, hb, hr⟩
  have hvt : v = .bool true := relD_bool hr
  subst hvt
  have hlt := hW.lt
  have hW' := hW
  obtain ⟨p, q, hA, hV, rfl, hfz, hnd⟩ := hW
  rw [hv] at hV
  obtain ⟨rfl, rfl⟩ := trodVars_none hV
  rw [List.append_nil] at hW' hlt
  have hold : ∀ x ∈ p, (fun b => decide (b < W.heap.size)) x.block = true := fun x hx => by simpa using hlt x hx
  refine ⟨.bool true, rfl, ds, [], p, [], p, [], hW', ?_, ?_, ?_, ?_, fun h => by cases h⟩
  · rw [List.append_nil, hspec, hrt]
    exact trodAll_mk1 (shut_bool htb true)
  · rw [List.append_nil, hspec]
    exact trodAll_stay hl hA hrec (fun x hx => hb.same (hlt x hx)) hold
  · rw [List.append_nil, hspec, hv]
    exact rfl
  · exact hb.frame _
end
end Go.DL

/-
  The data-level framework, second series, part a: ranges over functions: a round's code, an iterator's contract, the statement. Generic in the program; no condition.
-/
set_option linter.unusedVariables false
set_option linter.unusedSimpArgs false
namespace Go.DL
open Go.RowKit

/-- The fence of a round of the loop with record r. -/
abbrev WR (r : Nat) : Fence := Fence.wide.inRound r

def noDefer (l : List Oper) : Bool := l.all fun o => match o.op with | .defer _ => false | _ => true

section
variable {P : Program} {base : Nat} {Q : DX → DS → Prop} {s : DS}

theorem no_out {E : Env} : ¬ LetsOut (Lift E Q) := by
  rintro ⟨a, w, E', _, x, s, M, hx, _⟩
  cases x <;> exact hx

theorem op_in {r n : Nat} {o : Oper} (hd : ∀ c, o.op ≠ .defer c) {R : Exit → Act → World → Prop} {K K' : Act → World → Prop} {a : Act} {w : World} (hK : ∀ a w, K a w → K' a w)
    (h : o.wp P a w K R) : o.wpIn (WR r) n P a w K' R := by
  refine ⟨fun _ _ => trivial, ?_⟩
  rw [Oper.semAt_eq _ _ _ hd]
  unfold Oper.wp at h
  cases hr : (execOp a.eval o).run P w with
  | ok v w' =>
    rw [hr] at h
    cases v with
    | value v => exact hK _ _ h
    | skip => exact hK _ _ h
    | defer d => exact hK _ _ h
    | enter f args =>
      refine ⟨(fun e => by cases e), CallsIn.inRound r (callsIn_wide.2 (Calls.mono h ?_))⟩
      intro e w2 h2
      cases e with
      | returned v => exact hK _ _ h2
      | panicked ch => exact h2
      | outgrown => exact h2
    | row row args =>
      refine ⟨(fun e => by cases e), fun c cs _ => ?_⟩
      obtain ⟨v, w2, h1, h2⟩ := h c cs
      exact ⟨v, w2, hK _ _ h1, stepsIn_wide.2 h2⟩
    | _ => exact h.elim
  | halt st w' =>
    rw [hr] at h
    cases st <;> first | exact h | exact h.elim

theorem list_in {r n : Nat} {ops : Array Oper} {R : Exit → Act → World → Prop} (hno : ¬ LetsOut R) : ∀ (l : List Oper) (a : Act) (w : World), noDefer l = true → wpList P ops R l a w → wpListIn (WR r) n P ops R l a w
  | [], _, _, _, h => h
  | o :: l, a, w, hd, h => by
    simp only [noDefer, List.all_cons, Bool.and_eq_true] at hd
    have ho : ∀ c, o.op ≠ .defer c := fun c e => by rw [e] at hd; simp at hd
    unfold wpList at h
    unfold wpListIn
    split at h
    · rename_i hw
      rw [if_pos hw]
      rcases h with h | h
      · exact op_in ho (fun a' w' h' => list_in hno l a' w' hd.2 h') h
      · exact absurd h.2 hno
    · rename_i hw
      rw [if_neg hw]
      exact ⟨fun _ _ => trivial, list_in hno l _ w hd.2 h⟩

/-- The triple of code that runs in a round. -/
def TI (P : Program) (r base : Nat) (c : Code) (Q : DX → DS → Prop) (s : DS) : Prop :=
  ∀ (E : Env) (M : BMap) (w : World) (a : Act), E.base = base → St E M w a s → c.wpIn (WR r) 0 P (Lift E Q) a w

theorem TI_region {r id : Nat} {l : List Oper} (hd : noDefer l = true) (h : TL P base l.toArray l Q s) : TI P r base (.region id l.toArray false) Q s :=
  fun E M w a hb hst => wpIn_region_lit (list_in no_out l a w hd (h E M w a hb hst))

theorem TI_seq {r : Nat} {x y : Code} (h : TI P r base x (DX.andThen (TI P r base y Q) Q) s) : TI P r base (.seq x y) Q s := by
  intro E M w a hb hs
  refine wpIn_seq (wpIn_mono (h E M w a hb hs) ?_)
  rintro e a' w' ⟨E1, hext, dx, s', M', hx, hq, hst⟩
  cases dx with
  | normal =>
    cases e <;> simp only [XRel] at hx
    exact wpIn_mono (hq E1 M' w' a' (hext.base.trans hb) hst) fun _ _ _ => Lift.ext hext
  | exit id =>
    cases e <;> simp only [XRel] at hx
    exact ⟨E1, hext, .exit id, s', M', hx, hq, hst⟩
  | ret =>
    cases e <;> simp only [XRel] at hx
    exact ⟨E1, hext, .ret, s', M', trivial, hq, hst⟩
  | panic d =>
    cases e <;> simp only [XRel] at hx
    exact ⟨E1, hext, .panic d, s', M', hx, hq, hst⟩

/-- The environment of code that is entered with all boxes of a state. -/
def Env.within (E : Env) (M : BMap) (w : World) (bx : List (Nat × Box)) (base' : Nat) (ms : List (Deferred × Nat)) : Env :=
  ⟨w, E.A0, base', M, fun k => ∃ p ∈ bx, boxBlk M p = some k, fun i => i ∈ bx.map (·.1), ms⟩

theorem Boxes.within {E : Env} {M : BMap} {w : World} {bx : List (Nat × Box)} (h : Boxes E M w bx) (base' : Nat) (ms : List (Deferred × Nat)) : Boxes (E.within M w bx base' ms) M w bx where
  ok := h.ok
  ids := h.ids
  blks := h.blks
  new := fun p hp k hk => ⟨.inl ⟨p, hp, hk⟩, (h.new p hp k hk).2⟩
  foreign := fun b hb => by
    have h1 := h.foreign b hb
    refine ⟨Nat.lt_of_lt_of_le h1.1 h.frame.size, fun ⟨p, hp, hk⟩ => ?_⟩
    rcases (h.new p hp b hk).1 with h2 | h2
    · exact h1.2 h2
    · have := h1.1; omega
  frame := Fr.refl _ _
  old := fun p hp _ => ⟨List.mem_map.2 ⟨p, hp, rfl⟩, rfl, rfl, rfl⟩

/-- What the code that was entered so makes of the caller's state. -/
theorem St.call {E : Env} {M M' : BMap} {w w' : World} {a : Act} {s : DS} {bx' : List (Nat × Box)} {base' : Nat} {ms : List (Deferred × Nat)} (hst : St E M w a s) (hbase : E.base ≤ base') (hb : Boxes (E.within M w s.bx base' ms) M' w' bx') :
    St E M' w' a (s.back bx' base') := by
  have hO : ∀ k, (E.within M w s.bx base' ms).O k → (E.O k ∨ E.w0.heap.size ≤ k) ∧ k < w.heap.size := fun k ⟨p, hp, hk⟩ => hst.boxes.new p hp k hk
  have hFr : Fr E.O E.w0 w' := by
    have h1 := hb.frame
    have h2 := hst.boxes.frame
    refine ⟨h1.os.trans h2.os, h1.tape.trans h2.tape, h1.output.trans h2.output, Nat.le_trans h2.size h1.size, fun k hk hok => ?_⟩
    refine (h1.block k (Nat.lt_of_lt_of_le hk h2.size) fun hob => ?_).trans (h2.block k hk hok)
    rcases (hO k hob).1 with h3 | h3
    · exact hok h3
    · omega
  have hBox : Boxes E M' w' bx' := {
    ok := hb.ok
    ids := hb.ids
    blks := hb.blks
    new := fun p hp k hk => by
      obtain ⟨h1, h2⟩ := hb.new p hp k hk
      refine ⟨?_, h2⟩
      rcases h1 with h1 | h1
      · exact (hO k h1).1
      · exact .inr (Nat.le_trans hst.boxes.frame.size h1)
    foreign := hst.boxes.foreign
    frame := hFr
    old := fun p hp hlt => by
      obtain ⟨h1, h2, h3, h4⟩ := hb.old p hp (Nat.lt_of_lt_of_le hlt hbase)
      obtain ⟨p0, hp0, he⟩ := List.mem_map.1 h1
      have := hst.boxes.old p0 hp0 (by rw [he]; exact hlt)
      rw [he] at this
      obtain ⟨g1, g2, g3, g4⟩ := this
      exact ⟨g1, h2.trans g2, h3.trans g3, h4.trans g4⟩ }
  have hKeeps : Keeps w (Av E.A0 M s.bx) w' (Av E.A0 M' bx') := by
    intro b off u h1 h2
    have hlt := World.block_lt_of_cell? w ⟨b, off, none⟩ h2
    have hnO : ¬ (E.within M w s.bx base' ms).O b := fun hob => h1 (.inr hob)
    refine ⟨fun h3 => ?_, ?_⟩
    · rcases h3 with h3 | ⟨p, hp, hk⟩
      · exact h1 (.inl h3)
      · rcases (hb.new p hp b hk).1 with h4 | h4
        · exact hnO h4
        · exact absurd hlt (Nat.not_lt.2 h4)
    · rw [World.cell?_of_block (hb.frame.block b hlt hnO)]; exact h2
  have hlive : ∀ i, liveIn bx' base' i = true → M'.blk i = M.blk i ∧ M'.rv i = M.rv i ∧ M'.sz i = M.sz i := by
    intro i hi
    simp only [liveIn, Bool.and_eq_true, List.any_eq_true, beq_iff_eq] at hi
    obtain ⟨h1, p, hp, he⟩ := hi
    have hlt : i < base' := by simpa [Nat.blt_eq] using h1
    obtain ⟨_, h2, h3, h4⟩ := hb.old p hp (by rw [he]; exact hlt)
    rw [he] at h2 h3 h4
    exact ⟨h2, h3, h4⟩
  refine ⟨hst.defers, by simp [DS.back, hst.size], fun t l hl => ?_, hBox⟩
  simp only [DS.back, List.getElem?_map, Option.map_eq_some_iff] at hl
  obtain ⟨l', hl', rfl⟩ := hl
  exact LV.keep_rel hlive ((hst.slots t l' hl').mono hKeeps)

theorem box_cells {E : Env} {M : BMap} {w : World} {bx : List (Nat × Box)} (h : Boxes E M w bx) {p : Nat × Box} (hp : p ∈ bx) {r : Nat} (hk : boxBlk M p = some r) {o : Obj} (hr : w.heap[r]? = some o) (hc : boxy o = false) : False := by
  obtain ⟨i, b⟩ := p
  cases b with
  | var cs =>
    obtain ⟨arr, T, h1, _⟩ := h.ok i _ hp
    have hk' : M.blk i = r := by simpa [boxBlk] using hk
    rw [hk', hr] at h1
    cases h1
    simp [boxy] at hc
  | row e sz es =>
    obtain ⟨xs, h1, _⟩ := h.ok i _ hp
    rcases h1.2 with ⟨hv, _⟩ | ⟨g, cap, cur, hv, _, hg, _⟩
    · simp [boxBlk, hv, Value.ownBlock] at hk
    · have hk' : g = r := by simpa [boxBlk, hv, Value.ownBlock] using hk
      rw [hk', hr] at hg
      cases hg
      simp [boxy] at hc
  | map Q k e m =>
    obtain ⟨_, n, es, clock, h2, _⟩ := h.ok i _ hp
    have hk' : M.blk i = r := by simpa [boxBlk] using hk
    rw [hk', hr] at h2
    cases h2
    simp [boxy] at hc
  | mapl Q k l =>
    obtain ⟨_, n, vs, ⟨es, clock, h2, _⟩, _⟩ := h.ok i _ hp
    have hk' : M.blk i = r := by simpa [boxBlk] using hk
    rw [hk', hr] at h2
    cases h2
    simp [boxy] at hc
  | obj p =>
    obtain ⟨o2, h1, h2, _⟩ := h.ok i _ hp
    have hk' : M.blk i = r := by simpa [boxBlk] using hk
    rw [hk', hr] at h1
    cases h1
    rw [hc] at h2; cases h2
  | nest e es c =>
    obtain ⟨xs, v, h1, _⟩ := h.ok i _ hp
    rcases h1.2 with ⟨hv, _⟩ | ⟨g, cap, cur, hv, _, hg, _⟩
    · simp [boxBlk, hv, Value.ownBlock] at hk
    · have hk' : g = r := by simpa [boxBlk, hv, Value.ownBlock] using hk
      rw [hk', hr] at hg
      cases hg
      simp [boxy] at hc

/-- What a function that is ranged over does, called with yield: the elements come one after the other. -/
def Iter (P : Program) (gf : FuncId) (caps : List D) {α : Type} (vv : α → Value) (xs : List α) : Prop :=
  (∀ args w, (callFunc gf args).run P w = .ok (.enter gf args) w) ∧
  ∀ (w : World) (A : Nat → Prop) (lb : Array Value), lb.size = caps.length → (∀ (j : Nat) (c : D), caps[j]? = some c → ∃ u, lb[j]? = some u ∧ RelD w A c u) →
  ∀ (l : Nat) (J : List α → World → Prop), (∀ pre W, J pre W → ∀ b off u, ¬ A b → w.cell? ⟨b, off, none⟩ = some u → W.cell? ⟨b, off, none⟩ = some u) →
    (∀ pre W W', J pre W → Below W.heap.size W W' → J pre W') →
    (∀ pre x W1, J pre W1 → pre ++ [x] <+: xs → YieldAt Fence.wide 0 P l #[vv x] W1 fun e W' => e = .returned (.bool true) ∧ J (pre ++ [x]) W') →
    ∀ W, J [] W → CallsIn Fence.wide 0 P gf (#[.func (.yield l) #[] #[]] ++ lb) W fun e W' => (∃ v, e = .returned v) ∧ J xs W'

/-- THE STATEMENT 'for x := range f { body }', the body going on to its end in every round. -/
theorem T_range {g p : Tmp} {assign body : Code} {α : Type} (base' gf : Nat) (caps : List D) (vv : α → Value) (lx : α → LV) (xs : List α) (st : List α → DS) (s : DS)
    (hvv : ∀ x w A M, LV.rel w A M (lx x) (vv x)) (hb' : base ≤ base') (h0 : s = st []) (hslot : ∀ pre, pre <+: xs → (st pre).sl[g]? = some (.one (.dat (.fn gf caps))))
    (hit : Iter P gf caps vv xs)
    (hround : ∀ (r : Nat) (pre : List α) (x : α), pre ++ [x] <+: xs → TI P r base' assign (fun dx s1 => dx = .normal ∧
      TI P r base' body (fun dx s2 => dx = .normal ∧ (((st pre).back s1.bx base').back s2.bx base').Le (st (pre ++ [x]))) s1) ((st pre).put (some p) (lx x)))
    (hQ : Q .normal (st xs)) : T P base (.rangeFunc (.tmp g) #[p] assign body) Q s := by
  subst h0
  intro E M w a hE hst
  refine (wpIn_wide (n := 0)).1 ?_
  have hgr := hst.slots g _ (hslot [] List.nil_prefix)
  have hgv : a.eval (.tmp g) = a.tmps.getD g undef := rfl
  simp only [LV.rel, C.rel] at hgr
  generalize hv : a.tmps.getD g undef = v at hgr
  cases hgr with
  | fn _ _ lb hsz vs hvs hrel =>
  have hcap : ∀ (j : Nat) (c : D), caps[j]? = some c → ∃ u, lb[j]? = some u ∧ RelD w (Av E.A0 M (st []).bx) c u := fun j c hj => ⟨vs j, hvs j c hj, hrel j c hj⟩
  have hE1 : EnvExt E (E.within M w (st []).bx base E.marks) := by
    refine ⟨hE.symm, fun _ h => h, fun k hk => ?_, hst.boxes.frame, fun i hi hl => ?_, [], rfl, by simp, by simp⟩
    · obtain ⟨q, hq, hk⟩ := hk
      exact (hst.boxes.new q hq k hk).1
    · obtain ⟨q, hq, rfl⟩ := List.mem_map.1 hl
      exact hst.boxes.old q hq hi
  have hst1 : St (E.within M w (st []).bx base E.marks) M w a (st []) := ⟨hst.defers, hst.size, hst.slots, hst.boxes.within base E.marks⟩
  generalize hE1d : E.within M w (st []).bx base E.marks = E1 at hE1 hst1
  have hE1w : E1.w0 = w := by rw [← hE1d]; rfl
  have hE1b : E1.base = base := by rw [← hE1d]; rfl
  have hE1O : ∀ k, E1.O k → Av E.A0 M (st []).bx k := fun k hk => by rw [← hE1d] at hk; exact .inr hk
  refine wpIn_rangeFunc ?_
  intro fn _
  obtain ⟨rec, hrec⟩ : ∃ rec : LoopState → Option Code → Loop, rec = fun st pe => { state := st, pending := pe, fn, tmps := a.tmps, params := #[p], assign, body, defers := w.heap.size } := ⟨_, rfl⟩
  obtain ⟨W1, hW1⟩ : ∃ W1, (w.alloc (.deferred (some []))).alloc (.loop (rec .ready none)) = W1 := ⟨_, rfl⟩
  have hL1 : W1.heap[w.heap.size + 1]? = some (.loop (rec .ready none)) := by
    rw [← hW1]; have := World.alloc_heap_new (w.alloc (.deferred (some []))) (.loop (rec .ready none)); rwa [World.size_alloc] at this
  have hK1 : W1.heap[w.heap.size]? = some (.deferred (some [])) := by
    rw [← hW1]; exact (Below.heap_alloc _ _ _ (by simp)).trans (World.alloc_heap_new w _)
  have hb1 : Below w.heap.size w W1 := by
    rw [← hW1]; exact ((Below.refl _ w).alloc (Nat.le_refl _) _).alloc (by simp) _
  refine ⟨w.heap.size + 1, [{ target := .collected w.heap.size, args := #[] }], W1, { target := .fn (.func gf) lb, args := #[.func (.yield (w.heap.size + 1)) #[] #[]] }, W1, gf,
    #[.func (.yield (w.heap.size + 1)) #[] #[]] ++ lb, W1, ?_, ?_, ?_, ?_, fun e => (by cases e), ?_⟩
  · rw [← hW1, hrec]; exact run_enterLoop_outer _ _ _ _ _
  · simp only [resolve, rangeCall, hgv, hv]
    simp [go_sem]
  · intro f' _; trivial
  · simp [invoke, go_sem, hit.1]
  · refine (hit.2 w (Av E.A0 M (st []).bx) lb hsz hcap (w.heap.size + 1)
      (fun pre W => (pre <+: xs → ∃ M2, St E1 M2 W a (st pre)) ∧ (∀ k, k < w.heap.size → ¬ E1.O k → W.heap[k]? = w.heap[k]?) ∧ W.heap[w.heap.size + 1]? = some (.loop (rec .ready none)) ∧ W.heap[w.heap.size]? = some (.deferred (some [])))
      ?_ ?_ ?_ W1 ⟨fun _ => ⟨M, hst1.below hb1⟩, fun k hk _ => hb1.block k hk, hL1, hK1⟩).mono ?_
    · rintro pre W ⟨_, hk, _, _⟩ b off u h1 h2
      have hlt := World.block_lt_of_cell? w ⟨b, off, none⟩ h2
      rw [World.cell?_of_block (hk b hlt fun ho => h1 (hE1O b ho))]; exact h2
    · rintro pre W W' ⟨h1, h2, h3, h4⟩ hbel
      have hl3 := (Array.getElem?_eq_some_iff.1 h3).1
      have hl4 := (Array.getElem?_eq_some_iff.1 h4).1
      exact ⟨fun hp => let ⟨M2, h⟩ := h1 hp; ⟨M2, h.below hbel⟩, fun k hk ho => by rw [hbel.block k (by omega)]; exact h2 k hk ho, by rw [hbel.block _ hl3]; exact h3, by rw [hbel.block _ hl4]; exact h4⟩
    · rintro pre x W ⟨hi, hkeep, hl, hk⟩ hpx
      have hppre : pre <+: xs := (List.prefix_append pre [x]).trans hpx
      obtain ⟨M2, hs2⟩ := hi hppre
      have hll : w.heap.size + 1 < W.heap.size := (Array.getElem?_eq_some_iff.1 hl).1
      have hy := run_yield (P := P) (args := #[vv x]) hl (by rw [hrec]; rfl)
      rw [hrec] at hy
      refine ⟨fn, _, assign, body, hy, roundIn_of_wpIn trivial ?_⟩
      have htm : ((#[p] : Array Tmp).zip #[vv x]).foldl (fun tmps (t, a) => tmps.setIfInBounds t a) a.tmps = (a.put (some p) (vv x)).tmps := by simp [Act.put]
      simp only [htm]
      -- the round's own state
      have hbW := hs2.boxes.within base' []
      have hsb : St (E1.within M2 W (st pre).bx base' []) M2 W { tmps := (a.put (some p) (vv x)).tmps, defers := [] } ((st pre).put (some p) (lx x)) := by
        have h1 := hs2.put (some p) (hvv x W (Av E1.A0 M2 (st pre).bx) M2)
        exact ⟨rfl, h1.size, h1.slots, hbW⟩
      have hA := hround (w.heap.size + 1) pre x hpx (E1.within M2 W (st pre).bx base' []) M2 W _ rfl hsb
      refine wpIn_mono hA ?_
      rintro e a1 Wa ⟨Ea, hexta, dx, s1, M3, hx, ⟨rfl, hbody⟩, hst3⟩
      cases e <;> simp only [XRel] at hx
      have hs3 := St.back hexta hbW.foreign hst3
      have hbox3 : Boxes (E1.within M2 W (st pre).bx base' []) M3 Wa s1.bx := hs3.boxes
      have notbox : ∀ (Mx : BMap) (Wx : World) (Ex : Env) (bx : List (Nat × Box)), Boxes Ex Mx Wx bx → ∀ k o, Wx.heap[k]? = some o → boxy o = false → ¬ ∃ q ∈ bx, boxBlk Mx q = some k := by
        rintro Mx Wx Ex bx hB k o ho hc ⟨q, hq, hk⟩
        exact box_cells hB hq hk ho hc
      have hlA : Wa.heap[w.heap.size + 1]? = some (.loop (rec .ready none)) := by
        rw [hbox3.frame.block _ hll (notbox _ _ _ _ hs2.boxes _ _ hl rfl)]; exact hl
      have hkA : Wa.heap[w.heap.size]? = some (.deferred (some [])) := by
        rw [hbox3.frame.block _ (by show w.heap.size < W.heap.size; omega) (notbox _ _ _ _ hs2.boxes _ _ hk rfl)]; exact hk
      have hllA : w.heap.size + 1 < Wa.heap.size := (Array.getElem?_eq_some_iff.1 hlA).1
      refine ⟨_, run_beginRound hlA (by rw [hrec]), ?_⟩
      -- the caller's state between the two pieces
      have hc1 := St.call (s := st pre) hs2 (by rw [hE1b]; exact hb') hbox3
      have hc2 : St E1 M3 (Wa.putObj (w.heap.size + 1) (.loop { rec .ready none with state := .busy })) a ((st pre).back s1.bx base') := hc1.putNew _ hlA rfl (by rw [hE1w]; omega)
      have hl2 : (Wa.putObj (w.heap.size + 1) (.loop { rec .ready none with state := .busy })).heap[w.heap.size + 1]? = some (.loop { rec .ready none with state := .busy }) := World.putObj_heap_same hllA
      have hk2 : (Wa.putObj (w.heap.size + 1) (.loop { rec .ready none with state := .busy })).heap[w.heap.size]? = some (.deferred (some [])) := (World.putObj_heap_other (by omega)).trans hkA
      have hkeep2 : ∀ k, k < w.heap.size → ¬ E1.O k → (Wa.putObj (w.heap.size + 1) (.loop { rec .ready none with state := .busy })).heap[k]? = w.heap[k]? := fun k hk' ho => by
        have := hc2.boxes.frame.block k (by rw [hE1w]; exact hk') ho
        rw [hE1w] at this; exact this
      generalize hWb : Wa.putObj (w.heap.size + 1) (.loop { rec .ready none with state := .busy }) = Wb at hc2 hl2 hk2 hkeep2
      have hllB : w.heap.size + 1 < Wb.heap.size := (Array.getElem?_eq_some_iff.1 hl2).1
      have hbC : Boxes (E1.within M3 Wb s1.bx base' Ea.marks) M3 Wb s1.bx := by
        have := hc2.boxes.within base' Ea.marks
        exact this
      have hA0 : ∀ b, E1.A0 b → Ea.A0 b := fun b hb => hexta.a0 b hb
      have hsc : St (E1.within M3 Wb s1.bx base' Ea.marks) M3 Wb a1 s1 := by
        have h1 : St { E1.within M2 W (st pre).bx base' [] with marks := Ea.marks } M3 Wa a1 s1 := ⟨hst3.defers, hs3.size, hs3.slots, ⟨hs3.boxes.ok, hs3.boxes.ids, hs3.boxes.blks, hs3.boxes.new, hs3.boxes.foreign, hs3.boxes.frame, hs3.boxes.old⟩⟩
        refine ⟨h1.defers, h1.size, fun t lv hlv => ?_, hbC⟩
        have := h1.slots t lv hlv
        rw [← hWb]
        refine LV.rel.mono ?_ this
        intro b off u g1 g2
        refine ⟨g1, ?_⟩
        have hne : b ≠ w.heap.size + 1 := fun e => by
          subst e
          simp [World.cell?, hlA] at g2
        rw [World.cell?_of_block (World.putObj_heap_other hne)]; exact g2
      have hB := hbody (E1.within M3 Wb s1.bx base' Ea.marks) M3 Wb a1 rfl hsc
      refine wpIn_mono hB ?_
      rintro e a2 Wc ⟨Ed, hextd, dx, s2, M4, hx2, ⟨rfl, hle⟩, hst4⟩
      cases e <;> simp only [XRel] at hx2
      have hs4 := St.back hextd hbC.foreign hst4
      have hlC : Wc.heap[w.heap.size + 1]? = some (.loop { rec .ready none with state := .busy }) := by
        rw [hs4.boxes.frame.block _ hllB (notbox _ _ _ _ hc2.boxes _ _ hl2 rfl)]; exact hl2
      have hkC : Wc.heap[w.heap.size]? = some (.deferred (some [])) := by
        rw [hs4.boxes.frame.block _ (by show w.heap.size < Wb.heap.size; omega) (notbox _ _ _ _ hc2.boxes _ _ hk2 rfl)]; exact hk2
      have hc4 := St.call (s := (st pre).back s1.bx base') hc2 (by rw [hE1b]; exact hb') hs4.boxes
      obtain ⟨M5, hc5⟩ := hle E1 M4 Wc a hc4
      have hend := run_endRound (P := P) none hlC
      have hllC : w.heap.size + 1 < Wc.heap.size := (Array.getElem?_eq_some_iff.1 hlC).1
      refine ⟨_, _, hend, rfl, fun _ => ⟨M5, hc5.putNew _ hlC rfl (by rw [hE1w]; omega)⟩, fun k hk' ho => ?_, ?_, ?_⟩
      · rw [World.putObj_heap_other (by omega)]
        have := hc5.boxes.frame.block k (by rw [hE1w]; exact hk') ho
        rw [hE1w] at this; exact this
      · rw [World.putObj_heap_same hllC, hrec]; rfl
      · rw [World.putObj_heap_other (by omega)]; exact hkC
    · rintro e W2 ⟨⟨u, rfl⟩, hi, hkeep, hl, hk⟩
      obtain ⟨Mz, hz⟩ := hi (List.prefix_refl xs)
      have hll : w.heap.size + 1 < W2.heap.size := (Array.getElem?_eq_some_iff.1 hl).1
      refine ⟨none, _, by have := run_endLoop (P := P) hl (by rw [hrec]; simp); rw [hrec] at this; exact this, ?_⟩
      have hz2 := hz.putNew (.loop { rec .ready none with state := .exhausted }) hl rfl (by rw [hE1w]; omega)
      have hkz : (W2.putObj (w.heap.size + 1) (.loop { rec .ready none with state := .exhausted })).heap[w.heap.size]? = some (.deferred (some [])) := (World.putObj_heap_other (by omega)).trans hk
      rw [hrec] at hz2 hkz
      refine ⟨E1.within Mz _ (st xs).bx base (({ target := .collected w.heap.size, args := #[] }, w.heap.size) :: E.marks), ?_, .normal, st xs, Mz, trivial, hQ, ⟨?_, hz2.size, hz2.slots, hz2.boxes.within base _⟩⟩
      · refine hE1.trans ⟨hE1b.symm, fun _ h => h, fun k hk' => ?_, hz2.boxes.frame, fun i hi' hl' => ?_, [({ target := .collected w.heap.size, args := #[] }, w.heap.size)], ?_, by simp, fun q hq => ?_⟩
        · obtain ⟨q, hq, hk'⟩ := hk'
          exact (hz2.boxes.new q hq k hk').1
        · obtain ⟨q, hq, rfl⟩ := List.mem_map.1 hl'
          exact hz2.boxes.old q hq hi'
        · rw [← hE1d]; rfl
        · rw [List.mem_singleton] at hq
          subst hq
          exact ⟨rfl, (Array.getElem?_eq_some_iff.1 hkz).1, fun ⟨q, hq, hk'⟩ => box_cells hz2.boxes hq hk' hkz rfl, hkz, by rw [hE1w]; exact Nat.le_refl _⟩
      · have hd := hst.defers
        show [_] ++ a.defers = _
        rw [hd]; rfl
end
end Go.DL

/-
  The data-level framework, second series, part b: local arrays taken as rows; a sort of a row of the call's own. Generic in the program; no condition.
-/
set_option linter.unusedVariables false
set_option linter.unusedSimpArgs false
namespace Go.DL
open Go.RowKit

section
variable {P : Program} {w : World} {M : BMap} {base : Nat} {Q : DX → DS → Prop} {s : DS}

theorem TL_estep {ops : Array Oper} {o : Oper} {rest : List Oper} (hg : o.guard = none) (s' : DS) (hst : ∀ E M w a, E.base = base → St E M w a s → EStep P o E w a s') (h : TL P base ops rest Q s') : TL P base ops (o :: rest) Q s := by
  intro E M w a hE hs
  refine wpList_plain hg fun K hK => ?_
  exact hst E M w a hE hs K _ fun v w' M' hst' => hK _ _ (h E M' w' _ hE hst')

/-- The cells of a type's zero value. -/
def zeroCs (P : Program) (t : TypeId) : Option (List C) :=
  match P.info? t with
  | some i => match i.zero with
    | some z => some (z.cells.toList.map ofConstCell)
    | none => none
  | none => none

/-- 'var x [n]T', taken as a row of the call's own. -/
theorem TL_arr {ops : Array Oper} {o : Oper} {rest : List Oper} (t : TypeId) (d id sz : Nat) (es : List D) (hop : o.op = .alloc t) (hd : o.dst = some d) (hg : o.guard = none)
    (hz : zeroCs P t = some ((flat es).map .dat)) (hu : (es.all fun e => e.cells.length == sz) = true) (hmax : Nat.ble es.length maxLen = true) (hb : Nat.ble base id = true)
    (h : TL P base ops rest Q (((s.drop id).push id (.row t sz es)).put (some d) (.one (.rref id 0 0)))) : TL P base ops (o :: rest) Q s := by
  obtain ⟨i, z, hi, hzv, hes⟩ : ∃ i z, P.info? t = some i ∧ i.zero = some z ∧ z.cells.toList.map ofConstCell = (flat es).map .dat := by
    unfold zeroCs at hz
    split at hz
    · rename_i i hi
      split at hz
      · rename_i z hzv
        exact ⟨i, z, hi, hzv, by simpa using hz⟩
      · cases hz
    · cases hz
  have hu' : ∀ e ∈ es, e.cells.length = sz := fun e he => by have := List.all_eq_true.1 hu e he; simpa using this
  have hsz : z.cells.size = es.length * sz := by
    have := congrArg List.length hes
    simp only [List.length_map, Array.length_toList] at this
    rw [this, flat_length es hu']
  refine TL_estep hg _ (fun E M w a hE hst => ?_) h
  have hr : (execOp a.eval o).run P w = .ok (.value (.pointer (some ⟨w.heap.size, 0, none⟩))) (w.alloc (.cells z.cells t)) := by
    simp [execOp, hop, Instr.alloc, zeroValue, typeInfo, hi, hzv, newVar, newRow]
  refine EStep.of_run (M' := M.upd id w.heap.size (.slice (some ⟨w.heap.size, 0, none⟩) es.length es.length) sz) hr ?_
  rw [hd]
  refine St.put ?_ (some d) (by simp [LV.rel, C.rel, BMap.upd])
  refine row_box hst (by rw [hE]; exact Nat.le_of_ble_eq_true hb) hsz rfl (Nat.le_refl _) (Nat.le_of_ble_eq_true hmax) hu' fun A' _ j c hj => ?_
  have h1 : (z.cells.toList.map ofConstCell)[j]? = some (.dat c) := by rw [hes, List.getElem?_map, hj]; rfl
  simp only [List.getElem?_map, Option.map_eq_some_iff] at h1
  obtain ⟨u, hu', hc⟩ := h1
  refine ⟨u, by simpa using hu', ?_⟩
  have := ofConstCell_rel (w := w.alloc (.cells z.cells t)) (A := A') (M := ⟨fun _ => 0, fun _ => undef, fun _ => 0⟩) u
  rw [hc] at this
  exact this

theorem Av_dropped {E : Env} {a : Act} (hst : St E M w a s) {id : Nat} {bb : Box} (hm : (id, bb) ∈ s.bx) (blk : Nat) (rv : Value) (sz : Nat) {b : Nat} (h : Av E.A0 (M.upd id blk rv sz) (s.drop id).bx b) : Av E.A0 M s.bx b ∧ boxBlk M (id, bb) ≠ some b := by
  refine ⟨Av_drop h, fun hb => ?_⟩
  rcases h with h | ⟨p, hp, hpb⟩
  · have h1 := (hst.boxes.new _ hm b hb).1
    have h2 := hst.boxes.foreign b h
    rcases h1 with h1 | h1
    · exact h2.2 h1
    · have := h2.1; omega
  · obtain ⟨hne, b', hm', he⟩ := mem_drop hp
    obtain ⟨i, bx⟩ := p
    simp only at he hne hm'
    subst he
    rw [boxBlk_upd hne, boxBlk_scrub] at hpb
    have := blks_inj hst.boxes.blks _ hm' _ hm b hpb hb
    cases this
    exact hne rfl

/-- 'x[:n]' of such an array: what it holds is handed on as data. -/
theorem TL_arrSlice {ops : Array Oper} {o : Oper} {rest : List Oper} (t : TypeId) (d id sz len : Nat) (e et : TypeId) (es es' : List D) (x y : Operand) (n : Nat) (hop : o.op = .slice t x none (some y) none) (hd : o.dst = some d) (hg : o.guard = none)
    (hu : P.underlying t = some (.array len e)) (hie : (P.info? e).map (·.size) = some sz) (hx : s.ev x = .one (.rref id 0 0)) (hy : s.ev y = .one (.dat (.int .i64 (n : Int)))) (hl : s.bx.lookup id = some (.row et sz es)) (hlen : es.length = len) (h0 : 0 < len) (hn : n ≤ len) (hes' : es'= es.take n)
    (h : TL P base ops rest Q ((s.drop id).put (some d) (.one (.dat (.sl sz es'))))) : TL P base ops (o :: rest) Q s := by
  subst hes'
  obtain ⟨ie, hie, hsz⟩ := Option.map_eq_some_iff.1 hie
  refine TL_estep hg _ (fun E M w a hE hst => ?_) h
  have rx := ev_rel hst.size hst.slots x
  have ry := ev_rel hst.size hst.slots y
  rw [hx] at rx
  rw [hy] at ry
  simp only [LV.rel, C.rel, Nat.zero_mul, Nat.add_zero] at rx ry
  have ry := relD_int ry
  have hm := lookup_mem hl
  have hal : P.arrayLen t = len := by simp [Program.arrayLen, hu]
  have hel : P.elem t = e := by simp [Program.elem, hu]
  have hrun := run_sliceAt_array_h (P := P) w t ⟨M.blk id, 0, none⟩ (by rw [hal, hel]; exact hu) .i64 (n : Int) (by omega) (by rw [hal]; omega)
  rw [hal, hel] at hrun
  have hr : (execOp a.eval o).run P w = .ok (.value (sliced (some ⟨M.blk id, 0, none⟩) 0 n len sz)) w := by
    simp [execOp, hop, rx, ry, hrun, sizeOf, typeInfo, hie, slicedAt, sliced, hsz, Result.andThen]
    split <;> rfl
  refine EStep.of_run (M' := M.upd id 0 undef 0) hr ?_
  rw [hd]
  have hdrop : St E (M.upd id 0 undef 0) w a (s.drop id) := (hst.toA.drop id 0 undef 0).toSt fun b hb => Av_drop hb
  refine St.put hdrop (some d) ?_
  have hok := hst.boxes.ok id _ hm
  obtain ⟨xs, ho, _, _, _, hb⟩ := hok
  rcases ho.2 with ⟨_, h1⟩ | ⟨g, cap, cur, hrv, _, _, hcap, _⟩
  · omega
  have hgb : g = M.blk id := hb g (by rw [hrv]; rfl)
  subst hgb
  have hrel := row_rel (A := Av E.A0 M s.bx) (Av E.A0 (M.upd id 0 undef 0) (s.drop id).bx) (fun b hb => by
    have h3 := Av_dropped hst hm 0 undef 0 hb
    exact ⟨h3.1, by simpa [boxBlk] using h3.2⟩) (hst.boxes.ok id _ hm)
  rw [hrv] at hrel
  have := sl_sub hrel 0 n len (Nat.zero_le _) (by omega) hn (by omega)
  simpa [LV.rel, C.rel] using this

theorem TI_block {r id : Nat} {c : Code} (h : TI P r base c (DX.blk id Q) s) : TI P r base (.block id c) Q s := by
  intro E M w a hb hs
  refine wpIn_block (wpIn_mono (h E M w a hb hs) ?_)
  rintro e a' w' ⟨E1, hext, dx, s', M', hx, hq, hst⟩
  cases dx with
  | normal =>
    cases e <;> simp only [XRel] at hx
    exact ⟨E1, hext, .normal, s', M', trivial, hq, hst⟩
  | exit j =>
    cases e <;> simp only [XRel] at hx
    subst hx
    simp only [DX.blk] at hq
    simp only [Exit.inBlock]
    split <;> rename_i hj
    · rw [if_pos hj] at hq
      exact ⟨E1, hext, .normal, s', M', trivial, hq, hst⟩
    · rw [if_neg hj] at hq
      exact ⟨E1, hext, .exit _, s', M', rfl, hq, hst⟩
  | ret =>
    cases e <;> simp only [XRel] at hx
    exact ⟨E1, hext, .ret, s', M', trivial, hq, hst⟩
  | panic d =>
    cases e <;> simp only [XRel] at hx
    exact ⟨E1, hext, .panic d, s', M', hx, hq, hst⟩

/-! ### sorting a row -/
def toV : D → Value
  | .int k n => .int k n
  | _ => undef

def intC : D → Bool
  | .int _ _ => true
  | _ => false

theorem toV_rel {A : Nat → Prop} {c : D} (h : intC c = true) : RelD w A c (toV c) := by
  cases c <;> simp [intC] at h
  exact .int _ _

theorem rel_toV {A : Nat → Prop} {c : D} {v : Value} (h : intC c = true) (hr : RelD w A c v) : v = toV c := by
  cases c <;> simp [intC] at h
  cases hr
  rfl

/-- The values of a row of integers. -/
def rowV (es : List D) : List Value := (flat es).map toV

/-- What a function sorts a slice's elements to, called with the function g that compares. -/
def SortOK (P : Program) (f g : FuncId) (e : TypeId) (sz : Nat) {α : Type} (enc : α → D) (R : List α → List α → Prop) : Prop :=
  Callable P f ∧ ∀ (w : World) (blk cap : Nat) (cur : Array Value) (d : List α), d ≠ [] → d.length < 4611686018427387904 → w.heap[blk]? = some (.cells cur e (0, 0)) → d.length ≤ cap → cap ≤ maxLen → cur.size = cap * sz → cur.toList.take (d.length * sz) = rowV (d.map enc) →
    Calls P f #[.slice (some ⟨blk, 0, none⟩) d.length cap, .func (.func g) #[] #[]] w fun x w' => x = .returned (.tuple #[]) ∧
      ∃ d' cur', R d d' ∧ d'.length = d.length ∧ w.grownBy w' (some blk) ∧ w'.heap[blk]? = some (.cells cur' e (0, 0)) ∧ cur'.size = cur.size ∧ cur'.toList.take (d.length * sz) = rowV (d'.map enc)

theorem TL_sort {ops : Array Oper} {o : Oper} {rest : List Oper} {α : Type} {enc : α → D} {R : List α → List α → Prop} (f g : FuncId) (e : TypeId) (sz : Nat) {fop x y : Operand} {ts : Array TypeId} (hok : SortOK P f g e sz enc R)
    (ho : o.op = .call { callee := .value fop, args := #[x, y], argTypes := ts }) (hgd : o.guard = none) (hf : s.ev fop = .one (.fn f [])) (id : Nat) (hx : s.ev x = .one (.own id)) (hy : s.ev y = .one (.fn g [])) (d : List α) (hl : s.bx.lookup id = some (.row e sz (d.map enc)))
    (hne : d ≠ []) (hlt : d.length < 4611686018427387904) (hint : ∀ x, (enc x).cells.length = sz ∧ (enc x).cells.all intC = true)
    (h : ∀ d', R d d' → d'.length = d.length → TL P base ops rest Q ((s.setBox id (.row e sz (d'.map enc))).put o.dst UD)) : TL P base ops (o :: rest) Q s := by
  intro E M w a hE hst
  refine wpList_plain hgd fun K hK => ?_
  have hslots := ev_rel hst.size hst.slots
  have hfr := hslots fop
  rw [hf] at hfr
  obtain ⟨cv, hfv, hcs, hcv⟩ := hfr
  have hcv0 : cv = #[] := Array.eq_empty_of_size_eq_zero (by simpa using hcs)
  subst hcv0
  have hyr := hslots y
  rw [hy] at hyr
  obtain ⟨cy, hyv, hcy, _⟩ := hyr
  have hcy0 : cy = #[] := Array.eq_empty_of_size_eq_zero (by simpa using hcy)
  subst hcy0
  unfold Oper.wp
  rw [run_call_func ho hfv hok.1, Oper.upon_enter]
  have hxr := hslots x
  rw [hx] at hxr
  simp only [LV.rel, C.rel] at hxr
  have hm := lookup_mem hl
  have hsz : ∀ (l : List α), ∀ c ∈ l.map enc, c.cells.length = sz := fun l c hc => by
    obtain ⟨z, _, rfl⟩ := List.mem_map.1 hc
    exact (hint z).1
  have hall : ∀ (l : List α) (j : Nat) (c : D), (flat (l.map enc))[j]? = some c → intC c = true := fun l j c hc => by
    have := List.mem_of_getElem? hc
    simp only [flat, List.mem_flatMap, List.mem_map] at this
    obtain ⟨_, ⟨z, _, rfl⟩, hcz⟩ := this
    exact List.all_eq_true.1 (hint z).2 c hcz
  obtain ⟨xs, ho', hu, hMs, hrel, hblk⟩ := hst.boxes.ok id _ hm
  have hdl : 0 < d.length := List.length_pos_iff.2 hne
  rw [List.length_map] at ho'
  rcases ho'.2 with ⟨_, h1⟩ | ⟨g0, cap, cur, hrv, _, hheap, hcap, hcapm, hcs', htk⟩
  · omega
  have hgb : g0 = M.blk id := hblk g0 (by rw [hrv]; rfl)
  subst hgb
  have hargs : (#[x, y] : Array Operand).map a.eval ++ #[] = #[.slice (some ⟨M.blk id, 0, none⟩) d.length cap, .func (.func g) #[] #[]] := by
    simp [hxr, hrv, hyv]
  rw [hargs]
  have hfl : ∀ l : List α, (flat (l.map enc)).length = l.length * sz := fun l => by rw [flat_length _ (hsz l), List.length_map]
  have hxs : xs = rowV (d.map enc) := by
    apply List.ext_getElem?
    intro j
    rw [rowV, List.getElem?_map]
    cases hj : (flat (d.map enc))[j]? with
    | none =>
      have : (flat (d.map enc)).length ≤ j := List.getElem?_eq_none_iff.1 hj
      rw [hfl] at this
      have h3 := ho'.1
      simp; omega
    | some c =>
      obtain ⟨v, hv, hr⟩ := hrel j c hj
      rw [hv, rel_toV (hall d j c hj) hr]; rfl
  refine (hok.2 w (M.blk id) cap cur d hne hlt hheap hcap hcapm hcs' (by rw [← hxs, ← htk]) ).mono ?_
  rintro x' w' ⟨rfl, d', cur', hR, hlen, hg, hheap', hsz', htk'⟩
  refine hK _ _ (h d' hR hlen E M w' _ hE ?_)
  refine St.put (hst.setBox (b := .row e sz (d'.map enc)) hm rfl ?_ fun A' _ => ?_) o.dst ?_
  · simpa [boxBlk, hrv, Value.ownBlock] using hg
  · refine ⟨rowV (d'.map enc), ⟨?_, .inr ⟨M.blk id, cap, cur', by rw [hrv, List.length_map, hlen], Nat.zero_le _, hheap', by rw [List.length_map]; omega, hcapm, by rw [hsz']; exact hcs', ?_⟩⟩, hsz d', hMs, fun j c hj => ⟨toV c, by rw [rowV, List.getElem?_map, hj]; rfl, toV_rel (hall d' j c hj)⟩, hblk⟩
    · rw [rowV, List.length_map, hfl, List.length_map]
    · rw [List.length_map, hlen]; exact htk'
  · exact ud_rel
end
end Go.DL

/-
  The data-level framework, second series, part c: maps from int to int of the call's own. Generic in the program; no condition.
-/
set_option linter.unusedVariables false
set_option linter.unusedSimpArgs false
namespace Go.DL
open Go.RowKit Go.Maps

def mapD (l : List (Int × Int)) : DataW Unit := .map (l.map fun p => (.int .i64 p.1, .lit (.int .i64 p.2)))

def mget : List (Int × Int) → Int → Int
  | [], _ => 0
  | p :: l, a => if p.1 = a then p.2 else mget l a

def minsert (x : Int × Int) : List (Int × Int) → List (Int × Int)
  | [] => [x]
  | y :: r => if x.1 < y.1 then x :: y :: r else y :: minsert x r

def mput (l : List (Int × Int)) (a v : Int) : List (Int × Int) := minsert (a, v) (l.filter fun p => !(p.1 == a))

theorem mapD_get (l : List (Int × Int)) (a : Int) : (mapD l).atKey (.int .i64 a) (.lit (.int .i64 0)) = .lit (.int .i64 (mget l a)) := by
  simp only [mapD, DataW.atKey]
  induction l with
  | nil => rfl
  | cons p l ih =>
    simp only [List.map_cons, List.find?_cons, Lit.sameKey, mget]
    by_cases h : p.1 = a
    · simp [h]
    · simp only [h, and_false, decide_false, if_false]
      exact ih

theorem mapD_ins (x : Int × Int) (l : List (Int × Int)) : DataW.insert ((.int .i64 x.1 : Lit), (.lit (.int .i64 x.2) : DataW Unit)) (l.map fun p => (.int .i64 p.1, .lit (.int .i64 p.2))) = (minsert x l).map fun p => (.int .i64 p.1, .lit (.int .i64 p.2)) := by
  induction l with
  | nil => rfl
  | cons y r ih =>
    simp only [List.map_cons, DataW.insert, minsert, Lit.before]
    by_cases h : x.1 < y.1
    · simp [h]
    · simp only [h, decide_false, if_false, Bool.false_eq_true, List.map_cons]
      rw [ih]

theorem mapD_put (l : List (Int × Int)) (a v : Int) : (mapD l).put (.int .i64 a) (.lit (.int .i64 v)) = mapD (mput l a v) := by
  simp only [mapD, DataW.put, mput]
  rw [← mapD_ins, List.filter_map]
  congr 3
  refine List.filter_congr fun p _ => ?_
  simp only [Lit.sameKey, Function.comp_def, true_and]
  by_cases h : p.1 = a <;> simp [h]

theorem wf_i64 {a : Int} (h1 : -9223372036854775808 ≤ a) (h2 : a ≤ 9223372036854775807) : (Lit.int .i64 a).wf = true := by
  simp [Lit.wf, IntKind.min, IntKind.max, IntKind.bits, IntKind.signed]
  omega

section
variable {P : Program} {w : World} {M : BMap} {base : Nat} {Q : DX → DS → Prop} {s : DS}

/-- The least bound of such a map. -/
theorem ownsMap_size {k e : TypeId} {b n : Nat} {l : List (Int × Int)} (h : w.ownsMap P k (plainElem P e) b n (mapD l)) : w.ownsMap P k (plainElem P e) b l.length (mapD l) := by
  obtain ⟨es, clock, hb, F, _, hD⟩ := h
  refine ⟨es, clock, hb, F, ?_, hD⟩
  have h2 := congrArg (fun d => match d with | DataW.map es => es.length | _ => 0) hD
  simp only [mapD, List.length_map] at h2
  rw [length_sorted] at h2
  simp at h2
  omega

theorem TL_makeMap {ops : Array Oper} {o : Oper} {rest : List Oper} (t k e : TypeId) (d id : Nat) (hop : o.op = .makeMap t none) (hd : o.dst = some d) (hg : o.guard = none) (hu : P.underlying t = some (.map k e)) (hb : Nat.ble base id = true)
    (h : TL P base ops rest Q (((s.drop id).push id (.map P k e (mapD []))).put (some d) (.one (.own id)))) : TL P base ops (o :: rest) Q s := by
  refine TL_estep hg _ (fun E M w a hE hst => ?_) h
  have hr : (execOp a.eval o).run P w = .ok (.value (.map (some w.heap.size))) (w.alloc (.map #[] 0)) := by
    simp [execOp, hop, run_makeMap]
  refine EStep.of_run (M' := M.upd id w.heap.size (.map (some w.heap.size)) 0) hr ?_
  rw [hd]
  refine St.put ?_ (some d) (by simp [LV.rel, C.rel, BMap.upd])
  refine StA.push (hst.toA.drop id w.heap.size (.map (some w.heap.size)) 0) drop_free (by rw [hE]; exact Nat.le_of_ble_eq_true hb) (row := none) (World.grownBy_alloc w _ none) (fun k hk => by cases hk) (fun b hb => Av_drop hb) (fun k hk => ?_) fun A' _ => ?_
  · simp only [boxBlk, BMap.upd, if_true, Option.some.injEq] at hk
    subst hk
    exact ⟨.inr (Nat.le_refl _), by simp⟩
  · refine ⟨by simp [BMap.upd], 0, ?_⟩
    simp only [BMap.upd, if_true]
    exact World.ownsMap_made w P k (plainElem P e)

theorem TL_mapUpdate {ops : Array Oper} {o : Oper} {rest : List Oper} (t k e : TypeId) (id : Nat) (m x y : Operand) (l : List (Int × Int)) (a v : Int) (hop : o.op = .mapUpdate t m x y) (hg : o.guard = none) (hu : P.underlying t = some (.map k e)) (hk : P.underlying k = some (.int .i64)) (he : P.underlying e = some (.int .i64))
    (hm : s.ev m = .one (.own id)) (hx : s.ev x = .one (.dat (.int .i64 a))) (hy : s.ev y = .one (.dat (.int .i64 v))) (hl : s.bx.lookup id = some (.map P k e (mapD l))) (h1 : -9223372036854775808 ≤ a ∧ a ≤ 9223372036854775807) (h2 : -9223372036854775808 ≤ v ∧ v ≤ 9223372036854775807) (hn : l.length < maxLen)
    (h : TL P base ops rest Q ((s.setBox id (.map P k e (mapD (mput l a v)))).put o.dst UD)) : TL P base ops (o :: rest) Q s := by
  refine TL_estep hg _ (fun E M w act hE hst => ?_) h
  have rm := ev_rel hst.size hst.slots m
  have rx := ev_rel hst.size hst.slots x
  have ry := ev_rel hst.size hst.slots y
  rw [hm] at rm
  rw [hx] at rx
  rw [hy] at ry
  simp only [LV.rel, C.rel] at rm rx ry
  have rx := relD_int rx
  have ry := relD_int ry
  have hmem := lookup_mem hl
  obtain ⟨g1, n, g2⟩ := hst.boxes.ok id _ hmem
  obtain ⟨w', hrun, r1, r2⟩ := (ownsMap_size g2).update (int_keyed hk) hu hn (key := .int .i64 a) (kl := .int .i64 a) (val := .int .i64 v) (d := .lit (.int .i64 v)) (ps := []) (by simp [keyOf, hk, mapKey, wf_i64 h1.1 h1.2]) (plainElem_int he (wf_i64 h2.1 h2.2))
  rw [mapD_put] at r1
  intro K Q' hK
  have hst' : St E M w' act (s.setBox id (.map P k e (mapD (mput l a v)))) := hst.setBox (b := .map P k e (mapD (mput l a v))) hmem rfl r2 fun A' _ => ⟨g1, _, r1⟩
  have := hK undef w' M (hst'.put o.dst ud_rel)
  unfold Oper.wp
  simp only [execOp, hop, rm, g1, rx, ry, Sem.run_bind, hrun, Result.andThen]
  exact this

theorem mergeSort_keys {ss ks : List Int} (hp : ss.Perm ks) (hs : ks.Pairwise (· < ·)) : (ss.mergeSort fun x y => decide (x ≤ y)) = ks := by
  have h1 : (ss.mergeSort fun x y => decide (x ≤ y)).Pairwise fun x y => decide (x ≤ y) = true := List.pairwise_mergeSort (fun a b c h1 h2 => by simp at *; omega) (fun a b => by simp; omega) ss
  have h2 : ks.Pairwise fun x y => decide (x ≤ y) = true := hs.imp fun h => by simp; omega
  exact ((List.mergeSort_perm ss _).trans hp).eq_of_pairwise (fun a b _ _ h1 h2 => by simp at h1 h2; omega) h1 h2

end
end Go.DL

/-
  The data-level framework, second series, part d: a box takes another number. Generic in the program; no condition.
-/
set_option linter.unusedVariables false
set_option linter.unusedSimpArgs false
namespace Go.DL
open Go.RowKit

def renN (i j k : Nat) : Nat := match k == i with | true => j | false => k
def C.ren (i j : Nat) : C → C
  | .own k => .own (renN i j k)
  | .ref k o => .ref (renN i j k) o
  | .rref k x o => .rref (renN i j k) x o
  | .part k x o => .part (renN i j k) x o
  | .fn f caps => match caps.any (fun c => match c with | .inl k => k == i | .inr _ => false) with | true => .junk | false => .fn f caps
  | c => c
def LV.ren (i j : Nat) : LV → LV
  | .one c => .one (c.ren i j)
  | .agg cs => .agg (cs.map (C.ren i j))
  | .tup vs => .tup (vs.map fun p => (p.1, p.2.map (C.ren i j)))
def Box.ren (i j : Nat) : Box → Box
  | .var cs => .var (cs.map (C.ren i j))
  | .nest e es c => .nest e es (c.ren i j)
  | b => b
/-- Box i takes the number j, which nothing else has. -/
def DS.ren (i j : Nat) (s : DS) : DS := ⟨(s.drop j).sl.map (LV.ren i j), (s.drop j).bx.map fun p => (renN i j p.1, p.2.ren i j)⟩

section
variable {P : Program} {w : World} {A : Nat → Prop} {M : BMap} {i j : Nat}

theorem renN_M (h : M.blk j = M.blk i ∧ M.rv j = M.rv i ∧ M.sz j = M.sz i) (k : Nat) : M.blk (renN i j k) = M.blk k ∧ M.rv (renN i j k) = M.rv k ∧ M.sz (renN i j k) = M.sz k := by
  unfold renN
  split
  · rename_i hk
    have : k = i := by simpa using hk
    subst this; exact h
  · exact ⟨rfl, rfl, rfl⟩
theorem C.ren_rel (h : M.blk j = M.blk i ∧ M.rv j = M.rv i ∧ M.sz j = M.sz i) {c : C} {v : Value} (hc : C.rel w A M c v) : C.rel w A M (c.ren i j) v := by
  cases c with
  | own k => simp only [C.ren, C.rel, (renN_M h k).2.1]; exact hc
  | ref k o => simp only [C.ren, C.rel, (renN_M h k).1]; exact hc
  | rref k x o => simp only [C.ren, C.rel, (renN_M h k).1, (renN_M h k).2.2]; exact hc
  | part k x o => simp only [C.ren, C.rel, (renN_M h k).1, (renN_M h k).2.2]; exact hc
  | fn f caps => simp only [C.ren]; split <;> first | trivial | exact hc
  | _ => exact hc
theorem cells_ren (h : M.blk j = M.blk i ∧ M.rv j = M.rv i ∧ M.sz j = M.sz i) {cs : List C} {arr : Array Value} (hc : cellsRel w A M cs arr) : cellsRel w A M (cs.map (C.ren i j)) arr := by
  refine ⟨by simp [hc.1], fun k c hk => ?_⟩
  simp only [List.getElem?_map, Option.map_eq_some_iff] at hk
  obtain ⟨c', hc', rfl⟩ := hk
  obtain ⟨u, hu, hr⟩ := hc.2 k c' hc'
  exact ⟨u, hu, C.ren_rel h hr⟩
theorem LV.ren_rel (h : M.blk j = M.blk i ∧ M.rv j = M.rv i ∧ M.sz j = M.sz i) {l : LV} {v : Value} (hl : LV.rel w A M l v) : LV.rel w A M (l.ren i j) v := by
  cases l with
  | one c => exact C.ren_rel h hl
  | agg cs => exact let ⟨arr, h1, h2⟩ := hl; ⟨arr, h1, cells_ren h h2⟩
  | tup ps =>
    obtain ⟨arr, h1, h2, h3⟩ := hl
    refine ⟨arr, h1, by simp [h2], fun k p hk => ?_⟩
    simp only [List.getElem?_map, Option.map_eq_some_iff] at hk
    obtain ⟨q, hq, rfl⟩ := hk
    obtain ⟨u, hu, hr⟩ := h3 k q hq
    refine ⟨u, hu, ?_⟩
    obtain ⟨b, cs⟩ := q
    cases b with
    | true => exact let ⟨arr, h1, h2⟩ := hr; ⟨arr, h1, cells_ren h h2⟩
    | false =>
      match cs, hr with
      | [], _ => trivial
      | [c], hr => exact C.ren_rel h hr
      | _ :: _ :: _, _ => trivial
theorem boxBlk_ren (h : M.blk j = M.blk i ∧ M.rv j = M.rv i ∧ M.sz j = M.sz i) (k : Nat) (b : Box) : boxBlk M (renN i j k, b.ren i j) = boxBlk M (k, b) := by
  cases b <;> simp [boxBlk, Box.ren, renN_M h k]

theorem DS.le_ren {base : Nat} (s : DS) (i j : Nat) (hij : (i == j) = false) (hb : Nat.ble base j = true) : ∀ (E : Env) (M : BMap) (w : World) (a : Act), E.base = base → St E M w a s → ∃ M', St E M' w a (s.ren i j) := by
  intro E M w a hE h
  have hne : i ≠ j := by simpa using hij
  have hbase : E.base ≤ j := by rw [hE]; exact Nat.le_of_ble_eq_true hb
  have h1 : St E (M.upd j (M.blk i) (M.rv i) (M.sz i)) w a (s.drop j) := (h.toA.drop j (M.blk i) (M.rv i) (M.sz i)).toSt fun b hb => Av_drop hb
  refine ⟨M.upd j (M.blk i) (M.rv i) (M.sz i), ?_⟩
  have hM : (M.upd j (M.blk i) (M.rv i) (M.sz i)).blk j = (M.upd j (M.blk i) (M.rv i) (M.sz i)).blk i ∧ (M.upd j (M.blk i) (M.rv i) (M.sz i)).rv j = (M.upd j (M.blk i) (M.rv i) (M.sz i)).rv i ∧ (M.upd j (M.blk i) (M.rv i) (M.sz i)).sz j = (M.upd j (M.blk i) (M.rv i) (M.sz i)).sz i := by
    simp [BMap.upd, hne]
  generalize M.upd j (M.blk i) (M.rv i) (M.sz i) = M' at h1 hM
  have hbx : (s.ren i j).bx.map (boxBlk M') = (s.drop j).bx.map (boxBlk M') := by
    simp only [DS.ren, List.map_map]
    exact List.map_congr_left fun p _ => boxBlk_ren hM p.1 p.2
  have hAv : ∀ b, Av E.A0 M' (s.ren i j).bx b ↔ Av E.A0 M' (s.drop j).bx b := by
    intro b
    have : ∀ bx : List (Nat × Box), (∃ p ∈ bx, boxBlk M' p = some b) ↔ some b ∈ bx.map (boxBlk M') := by simp
    unfold Av
    rw [this, this, hbx]
  have hk : Keeps w (Av E.A0 M' (s.drop j).bx) w (Av E.A0 M' (s.ren i j).bx) := Keeps.sub fun b hb => (hAv b).1 hb
  have hmem : ∀ p ∈ (s.ren i j).bx, ∃ q ∈ (s.drop j).bx, p = (renN i j q.1, q.2.ren i j) := fun p hp => by
    obtain ⟨q, hq, rfl⟩ := List.mem_map.1 hp; exact ⟨q, hq, rfl⟩
  refine ⟨h1.defers, by rw [h1.size]; simp [DS.ren], fun t l hl => ?_, ?_⟩
  · simp only [DS.ren, List.getElem?_map, Option.map_eq_some_iff] at hl
    obtain ⟨l', hl', rfl⟩ := hl
    exact LV.ren_rel hM ((h1.slots t l' hl').mono hk)
  · refine {
      ok := fun id b hb => ?_
      ids := ?_
      blks := ?_
      new := fun p hp k hpk => ?_
      foreign := h1.boxes.foreign
      frame := h1.boxes.frame
      old := fun p hp hlt => ?_ }
    · obtain ⟨q, hq, he⟩ := hmem _ hb
      cases he
      have hok := (h1.boxes.ok q.1 q.2 hq).mono hk (fun _ _ => rfl)
      have hr := renN_M hM q.1
      revert hok
      cases q.2 with
      | var cs =>
        rintro ⟨arr, T, g1, g2⟩
        exact ⟨arr, T, by rw [hr.1]; exact g1, cells_ren hM g2⟩
      | row e sz es =>
        rintro ⟨xs, g1, g2, g3, g4, g5⟩
        exact ⟨xs, by rw [hr.2.1]; exact g1, g2, by rw [hr.2.2]; exact g3, g4, by rw [hr.1, hr.2.1]; exact g5⟩
      | map Q k e m =>
        rintro ⟨g1, g2⟩
        exact ⟨by rw [hr.1, hr.2.1]; exact g1, by rw [hr.1]; exact g2⟩
      | mapl Q k l =>
        intro hok
        show maplOK _ _ _ _ _ _ _
        rw [hr.1, hr.2.1]; exact hok
      | obj p =>
        rintro ⟨o, g1, g2, g3⟩
        exact ⟨o, by rw [hr.1]; exact g1, g2, by rw [hr.1, hr.2.1]; exact g3⟩
      | nest e es c =>
        rintro ⟨xs, v, g1, g2, g3, g4, g5, g6⟩
        exact ⟨xs, v, by rw [hr.2.1]; exact g1, g2, by rw [hr.2.2]; exact g3, g4, C.ren_rel hM g5, by rw [hr.1, hr.2.1]; exact g6⟩
    · have : (s.ren i j).bx.map (·.1) = ((s.drop j).bx.map (·.1)).map (renN i j) := by simp [DS.ren, List.map_map, Function.comp_def]
      rw [this]
      have hfree : ∀ x ∈ (s.drop j).bx.map (·.1), x ≠ j := fun x hx => by
        obtain ⟨p, hp, rfl⟩ := List.mem_map.1 hx
        exact drop_free p hp
      have hnd := h1.boxes.ids
      generalize (s.drop j).bx.map (·.1) = ids at hnd hfree
      refine List.pairwise_map.2 (List.Pairwise.imp_of_mem ?_ hnd)
      intro x y hx hy hxy e
      have h2 := hfree x hx
      have h3 := hfree y hy
      have hr : ∀ z, z ≠ i → renN i j z = z := fun z hz => by
        unfold renN
        split
        · rename_i hk; exact absurd (by simpa using hk) hz
        · rfl
      have hi : renN i j i = j := by simp [renN]
      by_cases a1 : x = i
      · subst a1
        rw [hi, hr y (fun e => hxy e.symm)] at e
        exact h3 e.symm
      · rw [hr x a1] at e
        by_cases a2 : y = i
        · subst a2; rw [hi] at e; exact h2 e
        · rw [hr y a2] at e; exact hxy e
    · rw [filterMap_of_map (boxBlk M'), hbx, ← filterMap_of_map]; exact h1.boxes.blks
    · obtain ⟨q, hq, rfl⟩ := hmem p hp
      rw [boxBlk_ren hM] at hpk
      exact h1.boxes.new q hq k hpk
    · obtain ⟨q, hq, rfl⟩ := hmem p hp
      have hr := renN_M hM q.1
      simp only at hlt ⊢
      by_cases he : q.1 = i
      · have : renN i j q.1 = j := by simp [renN, he]
        omega
      · have e : renN i j q.1 = q.1 := by
          unfold renN
          split
          · rename_i hk; exact absurd (by simpa using hk) he
          · rfl
        rw [e] at hlt ⊢
        exact h1.boxes.old q hq hlt

end
end Go.DL

/-
  The data-level framework, second series, part e: a region that draws its order, walked by the sets of operations that may have run. Generic in the program; no condition.
-/
set_option linter.unusedVariables false
set_option linter.unusedSimpArgs false
namespace Go.DL
open Go.RowKit

/-- The boxes in another order. -/
def DS.order (ids : List Nat) (s : DS) : DS := ⟨s.sl, ids.filterMap fun i => (s.bx.lookup i).map fun b => (i, b)⟩

theorem lookup_of_mem {bx : List (Nat × Box)} (hn : (bx.map (·.1)).Nodup) {i : Nat} {b : Box} (h : (i, b) ∈ bx) : bx.lookup i = some b := by
  induction bx with
  | nil => cases h
  | cons p l ih =>
    obtain ⟨j, c⟩ := p
    rw [List.map_cons, List.nodup_cons] at hn
    rcases List.mem_cons.1 h with e | h'
    · cases e; simp [List.lookup]
    · have hne : i ≠ j := fun e => hn.1 (e ▸ List.mem_map.2 ⟨(i, b), h', rfl⟩)
      rw [List.lookup, show (i == j) = false by simpa using hne]
      exact ih hn.2 h'

theorem nodup_of_map {α β : Type} {f : α → β} : ∀ {l : List α}, (l.map f).Nodup → l.Nodup
  | [], _ => List.nodup_nil
  | x :: l, h => by
    rw [List.map_cons, List.nodup_cons] at h
    exact List.nodup_cons.2 ⟨fun hx => h.1 (List.mem_map.2 ⟨x, hx, rfl⟩), nodup_of_map h.2⟩

theorem order_mem {ids : List Nat} {s : DS} {i : Nat} {b : Box} : (i, b) ∈ (s.order ids).bx ↔ i ∈ ids ∧ s.bx.lookup i = some b := by
  simp only [DS.order, List.mem_filterMap, Option.map_eq_some_iff]
  constructor
  · rintro ⟨j, hj, c, hc, e⟩; cases e; exact ⟨hj, hc⟩
  · rintro ⟨hi, hb⟩; exact ⟨i, hi, b, hb, rfl⟩

theorem DS.le_order (s : DS) (ids : List Nat) (hn : ids.Nodup) (hall : ∀ p ∈ s.bx, p.1 ∈ ids) : s.Le (s.order ids) := by
  intro E M w a h
  have hmem : ∀ p : Nat × Box, p ∈ (s.order ids).bx ↔ p ∈ s.bx := by
    rintro ⟨i, b⟩
    rw [order_mem]
    constructor
    · rintro ⟨_, hb⟩; exact lookup_mem hb
    · intro hp; exact ⟨hall _ hp, lookup_of_mem h.boxes.ids hp⟩
  have hav : ∀ b, Av E.A0 M (s.order ids).bx b ↔ Av E.A0 M s.bx b := fun b => by
    unfold Av
    refine or_congr Iff.rfl ⟨fun ⟨p, hp, hk⟩ => ⟨p, (hmem p).1 hp, hk⟩, fun ⟨p, hp, hk⟩ => ⟨p, (hmem p).2 hp, hk⟩⟩
  have hnd : ((s.order ids).bx.map (·.1)).Nodup := by
    have : (s.order ids).bx.map (·.1) = ids.filterMap fun i => (s.bx.lookup i).map fun _ => i := by
      simp only [DS.order, List.map_filterMap, Option.map_map]; rfl
    rw [this]
    exact List.Pairwise.filterMap (S := fun a b => a ≠ b) _ (by
      intro a a' hne b hb b' hb' e
      simp only [Option.map_eq_some_iff] at hb hb'
      obtain ⟨_, _, rfl⟩ := hb
      obtain ⟨_, _, rfl⟩ := hb'
      exact hne e) hn
  have hndp : (s.order ids).bx.Nodup := nodup_of_map hnd
  have hnds : s.bx.Nodup := nodup_of_map h.boxes.ids
  have hperm : (s.order ids).bx.Perm s.bx := (List.perm_ext_iff_of_nodup hndp hnds).2 hmem
  refine ⟨M, h.defers, h.size, fun t l hl => (h.slots t l hl).mono (Keeps.sub fun b hb => (hav b).1 hb), ?_⟩
  exact {
    ok := fun id b hb => (h.boxes.ok id b ((hmem _).1 hb)).mono (Keeps.sub fun b hb => (hav b).1 hb) (fun _ _ => rfl)
    ids := hnd
    blks := (hperm.filterMap _).nodup_iff.2 h.boxes.blks
    new := fun p hp => h.boxes.new p ((hmem p).1 hp)
    foreign := h.boxes.foreign
    frame := h.boxes.frame
    old := fun p hp => h.boxes.old p ((hmem p).1 hp) }

section
variable {P : Program} {base : Nat} {ops : Array Oper} {Q : DX → DS → Prop} {s : DS}

theorem Oper.wp_mono2 {o : Oper} {a : Act} {w : World} {K K' : Act → World → Prop} {R R' : Exit → Act → World → Prop} (h : ∀ a w, K a w → K' a w) (hR : ∀ e a w, e ≠ .normal → R e a w → R' e a w)
    (hh : o.wp P a w K R) : o.wp P a w K' R' := by
  unfold Oper.wp at *
  generalize (execOp a.eval o).run P w = r at *
  cases r with
  | ok n w' =>
    cases n <;> simp only [Oper.upon] at hh ⊢ <;>
      first
        | exact h _ _ hh
        | exact Calls.mono hh (fun e w'' he => by cases e <;> first | exact h _ _ he | exact hR _ _ _ (by simp) he | exact (fun ⟨a, w, y⟩ => ⟨a, w, hR _ _ _ (by simp) y⟩ : LetsOut R → LetsOut R') he)
        | exact Rows.mono hh (fun _ _ he => h _ _ he)
        | exact hh
  | halt x w' => cases x <;> simp only [Oper.upon] at hh ⊢ <;> first | exact hR _ _ _ (by simp) hh | exact hh

theorem wpAny_mono {R R' : Exit → Act → World → Prop} (h : ∀ e a w, R e a w → R' e a w) : ∀ (n : Nat) (l : Array Bool) (a : Act) (w : World), wpAny P .any ops R n l a w → wpAny P .any ops R' n l a w
  | 0, _, _, _, hh => ⟨hh.1, h _ _ _ hh.2⟩
  | n + 1, l, a, w, hh => ⟨fun e => h _ _ _ (hh.1 e), fun i hi => by
      have := hh.2 i hi
      unfold wpOp at this ⊢
      split
      · rename_i ho; rw [ho] at this; exact wpAny_mono h n _ _ _ this
      · rename_i o ho
        rw [ho] at this
        dsimp only at this
        split
        · rename_i hw
          rw [if_pos hw] at this
          exact this.imp (Oper.wp_mono2 (fun a w => wpAny_mono h n _ a w) fun e a w _ => h e a w) (fun ⟨x, a', w', y⟩ => ⟨x, a', w', h _ _ _ y⟩)
        · rename_i hw
          rw [if_neg hw] at this
          exact wpAny_mono h n _ _ _ this⟩

/-- The region, where the operations of 'listed' have run. -/
def TA (P : Program) (base : Nat) (ops : Array Oper) (Q : DX → DS → Prop) (n : Nat) (listed : Array Bool) (s : DS) : Prop :=
  ∀ (E : Env) (M : BMap) (w : World) (a : Act), E.base = base → St E M w a s → wpAny P .any ops (Lift E Q) n listed a w

def QE (Q : DX → DS → Prop) (s1 : DS) : DX → DS → Prop
  | .normal, s => s.Le s1
  | x, s => Q x s

theorem TA_op {n i : Nat} {o : Oper} {listed : Array Bool} {s1 : DS} (ho : ops[i]? = some o) (hT : TL P base ops [o] (QE Q s1) s) (h : TA P base ops Q n listed s1) (E : Env) (M : BMap) (w : World) (a : Act) (hE : E.base = base) (hst : St E M w a s) :
    wpOp P ops (Lift E Q) i (wpAny P .any ops (Lift E Q) n listed) a w := by
  have key : ∀ a w, Lift E (QE Q s1) .normal a w → wpAny P .any ops (Lift E Q) n listed a w := by
    rintro a w ⟨E', hext, x, s', M', hx, hq, hst'⟩
    cases x <;> simp only [XRel] at hx
    obtain ⟨M'', h2⟩ := hq E' M' w a hst'
    exact wpAny_mono (fun _ _ _ => Lift.ext hext) _ _ _ _ (h E' M'' w a (hext.base.trans hE) h2)
  have h1 := hT E M w a hE hst
  unfold wpOp
  rw [ho]
  dsimp only
  unfold wpList at h1
  split
  · rename_i hw
    rw [if_pos hw] at h1
    rcases h1 with h1 | h1
    · refine .inl (Oper.wp_mono2 key ?_ h1)
      rintro e a w hne ⟨E', hext, x, s', M', hx, hq, hst'⟩
      refine ⟨E', hext, x, s', M', hx, ?_, hst'⟩
      cases x with
      | normal => cases e <;> simp_all [XRel]
      | _ => exact hq
    · exact absurd h1.2 no_out
  · rename_i hw
    rw [if_neg hw] at h1
    exact key _ _ h1

/-- Whether every operation that may come next is among those that are listed. -/
def bitsA (n : Nat) (m : Nat) : Array Bool := ((List.range n).map fun i => m.testBit i).toArray

def Edges (P : Program) (base : Nat) (ops : Array Oper) (Q : DX → DS → Prop) (st : Nat → DS) : List (Nat × Nat) → Prop
  | [] => True
  | (m, i) :: l => (match ops[i]? with | some o => TL P base ops [o] (QE Q (st (m + 2 ^ i))) (st m) | none => False) ∧ Edges P base ops Q st l

theorem Edges.get {st : Nat → DS} : ∀ {l : List (Nat × Nat)}, Edges P base ops Q st l → ∀ {m i : Nat}, (m, i) ∈ l → ∃ o, ops[i]? = some o ∧ TL P base ops [o] (QE Q (st (m + 2 ^ i))) (st m)
  | [], _, _, _, h => by cases h
  | (m', i') :: l, h, m, i, hm => by
    rcases List.mem_cons.1 hm with e | hm
    · cases e
      have h1 := h.1
      split at h1
      · exact ⟨_, by assumption, h1⟩
      · exact h1.elim
    · exact Edges.get h.2 hm

/-- What is to be reckoned of a region: from each set that is met, each operation that may come next leads to a set that is met. -/
def dagOk (ops : Array Oper) (edges : List (Nat × Nat)) (sets : List Nat) : Bool :=
  sets.contains 0 && sets.all fun m =>
    ((Region.ready .any ops (bitsA ops.size m)).all fun i => edges.contains (m, i) && !m.testBit i && sets.contains (m + 2 ^ i) && (bitsA ops.size m).setIfInBounds i true == bitsA ops.size (m + 2 ^ i)) &&
    (!(Region.ready .any ops (bitsA ops.size m)).isEmpty || m + 1 == 2 ^ ops.size)

theorem T_any {id : Nat} {l : List Oper} (edges : List (Nat × Nat)) (sets : List Nat) (st : Nat → DS) (hm : P.follows .mixedOrders = true) (hok : dagOk l.toArray edges sets = true) (h0 : s.Le (st 0))
    (hE : Edges P base l.toArray Q st edges) (hend : Q .normal (st (2 ^ l.length - 1))) : T P base (.region id l.toArray true) Q s := by
  intro E M w a hbase hst
  refine wp_region_any hm ?_
  unfold dagOk at hok
  rw [Bool.and_eq_true, List.all_eq_true] at hok
  obtain ⟨h00, hall⟩ := hok
  have full : ∀ m, m + 1 = 2 ^ l.length → Q .normal (st m) := fun m e => by
    have : m = 2 ^ l.length - 1 := by omega
    rw [this]; exact hend
  have key : ∀ n m, m ∈ sets → todo l.length (bitsA l.length m) = n → TA P base l.toArray Q n (bitsA l.length m) (st m) := by
    intro n
    induction n with
    | zero =>
      intro m hm ht E M w a hb hst
      have hr : Region.ready .any l.toArray (bitsA l.length m) = [] := by
        rw [List.eq_nil_iff_forall_not_mem]
        intro i hi
        obtain ⟨hun, o, hoi, _⟩ := mem_ready.1 hi
        have hlt : i < l.length := by simpa using (Array.getElem?_eq_some_iff.1 hoi).1
        have := todo_zero ht i hlt
        have h2 := getD_both hun
        rw [this] at h2; cases h2
      have h1 := hall m hm
      simp only [List.size_toArray, hr, Bool.and_eq_true, List.isEmpty_nil, Bool.not_true, Bool.false_or, beq_iff_eq] at h1
      exact ⟨hr, E, EnvExt.refl E, .normal, st m, M, trivial, full m h1.2, hst⟩
    | succ n ih =>
      intro m hm ht E M w a hb hst
      have h1 := hall m hm
      rw [Bool.and_eq_true, List.all_eq_true] at h1
      simp only [List.size_toArray] at h1
      refine ⟨fun hr => ?_, fun i hi => ?_⟩
      · have h2 := h1.2
        simp only [hr, List.isEmpty_nil, Bool.not_true, Bool.false_or, beq_iff_eq] at h2
        exact ⟨E, EnvExt.refl E, .normal, st m, M, trivial, full m h2, hst⟩
      · have h2 := h1.1 i hi
        simp only [Bool.and_eq_true, beq_iff_eq, List.contains_iff_mem, Bool.not_eq_true'] at h2
        obtain ⟨⟨⟨h3, h3b⟩, h4⟩, h5⟩ := h2
        obtain ⟨o, ho, hT⟩ := hE.get h3
        obtain ⟨hun, o', hoi, _⟩ := mem_ready.1 hi
        have hlt : i < l.length := by simpa using (Array.getElem?_eq_some_iff.1 hoi).1
        rw [h5]
        refine TA_op ho hT (ih _ h4 ?_) E M w a hb hst
        have h6 := todo_set (n := l.length) (i := i) hlt (by simp [bitsA]; exact hlt) (getD_both hun)
        rw [h5] at h6
        omega
  have e0 : bitsA l.length 0 = Array.replicate l.length false := by
    simp only [bitsA, Nat.zero_testBit]
    apply Array.ext
    · simp
    · intro i h1 h2; simp
  have t0 : todo l.length (Array.replicate l.length false) = l.length := by
    unfold todo
    rw [List.filter_eq_self.2]
    · exact List.length_range
    · intro i hi
      simp only [Array.getD_eq_getD_getElem?, Array.getElem?_replicate]
      split <;> rfl
  obtain ⟨M', h1⟩ := h0 E M w a hst
  have hw : Below w.heap.size w { w with drawn := w.drawn + 1 } := ⟨rfl, rfl, rfl, Nat.le_refl _, fun _ _ => rfl⟩
  have := key l.length 0 (by simpa using h00) (by rw [e0, t0]) E M' { w with drawn := w.drawn + 1 } a hbase (h1.below hw)
  rw [e0] at this
  simpa using this

theorem Edges.cons {l : List Oper} {st : Nat → DS} {m i : Nat} {rest : List (Nat × Nat)} (hi : Nat.blt i l.length = true) (hT : TL P base l.toArray ((l.drop i).take 1) (QE Q (st (m + 2 ^ i))) (st m)) (hr : Edges P base l.toArray Q st rest) : Edges P base l.toArray Q st ((m, i) :: rest) := by
  have hlt : i < l.length := by simpa [Nat.blt_eq] using hi
  refine ⟨?_, hr⟩
  have e : l.toArray[i]? = some l[i] := by simp [hlt]
  rw [e]
  rw [List.drop_eq_getElem_cons hlt] at hT
  exact hT

theorem QE_turn {s1 : DS} (live dead ids : List Nat) (h : (s.prune live dead).order ids = s1) (hn : decide ids.Nodup = true) (hall : ((s.prune live dead).bx.all fun p => ids.contains p.1) = true) : QE Q s1 .normal s :=
  (DS.le_prune s live dead).trans ((DS.le_order _ ids (of_decide_eq_true hn) (fun p hp => by
    have := List.all_eq_true.1 hall p hp
    simpa using this)).trans (DS.le_of_eq h))
end
end Go.DL
namespace Go.DL
section
variable {P : Program} {base : Nat} {Q : DX → DS → Prop} {s : DS}
theorem le_order {s1 : DS} (live ids : List Nat) (h : (s.prune live []).order ids = s1) (hn : decide ids.Nodup = true) (hall : ((s.prune live []).bx.all fun p => ids.contains p.1) = true) : s.Le s1 :=
  QE_turn (Q := fun _ _ => True) live [] ids h hn hall
end
end Go.DL

/-
  The data-level framework, second series, part f: contracts with boxes: what a call makes of boxes that are handed to it, and of a panic. Generic in the program; no condition.
-/
set_option linter.unusedVariables false
set_option linter.unusedSimpArgs false
namespace Go.DL
open Go.RowKit

/-! ### boxes under other numbers -/
def C.mapi (ρ : Nat → Nat) : C → C
  | .own i => .own (ρ i)
  | .ref i o => .ref (ρ i) o
  | .rref i k o => .rref (ρ i) k o
  | .part i k o => .part (ρ i) k o
  | .fn f caps => .fn f (caps.map fun c => match c with | .inl i => .inl (ρ i) | .inr d => .inr d)
  | c => c
def LV.mapi (ρ : Nat → Nat) : LV → LV
  | .one c => .one (c.mapi ρ)
  | .agg cs => .agg (cs.map (C.mapi ρ))
  | .tup vs => .tup (vs.map fun p => (p.1, p.2.map (C.mapi ρ)))
def Box.mapi (ρ : Nat → Nat) : Box → Box
  | .var cs => .var (cs.map (C.mapi ρ))
  | .nest e es c => .nest e es (c.mapi ρ)
  | b => b
def BMap.via (M : BMap) (ρ : Nat → Nat) : BMap := ⟨fun i => M.blk (ρ i), fun i => M.rv (ρ i), fun i => M.sz (ρ i)⟩
def Box.keep (ok : Nat → Bool) : Box → Box
  | .var cs => .var (cs.map (C.keep ok))
  | .nest e es c => .nest e es (c.keep ok)
  | b => b

section
variable {P : Program} {w : World} {A : Nat → Prop} {M M' : BMap} {ρ : Nat → Nat}

theorem capRel_via {c : Sum Nat D} {v : Value} : capRel w A (M.via ρ) c v ↔ capRel w A M (match c with | .inl i => .inl (ρ i) | .inr d => .inr d) v := by
  cases c <;> exact Iff.rfl
theorem C.mapi_rel {c : C} {v : Value} : C.rel w A (M.via ρ) c v ↔ C.rel w A M (c.mapi ρ) v := by
  cases c with
  | fn f caps =>
    constructor
    · rintro ⟨arr, h1, h2, h3⟩
      refine ⟨arr, h1, by simp [h2], fun j c hj => ?_⟩
      simp only [List.getElem?_map, Option.map_eq_some_iff] at hj
      obtain ⟨c', hc', rfl⟩ := hj
      obtain ⟨u, hu, hr⟩ := h3 j c' hc'
      exact ⟨u, hu, capRel_via.1 hr⟩
    · rintro ⟨arr, h1, h2, h3⟩
      refine ⟨arr, h1, by simpa using h2, fun j c hj => ?_⟩
      obtain ⟨u, hu, hr⟩ := h3 j _ (by rw [List.getElem?_map, hj]; rfl)
      exact ⟨u, hu, capRel_via.2 hr⟩
  | _ => exact Iff.rfl
theorem cells_mapi {cs : List C} {arr : Array Value} : cellsRel w A (M.via ρ) cs arr ↔ cellsRel w A M (cs.map (C.mapi ρ)) arr := by
  constructor
  · rintro ⟨h1, h2⟩
    refine ⟨by simp [h1], fun j c hj => ?_⟩
    simp only [List.getElem?_map, Option.map_eq_some_iff] at hj
    obtain ⟨c', hc', rfl⟩ := hj
    obtain ⟨u, hu, hr⟩ := h2 j c' hc'
    exact ⟨u, hu, C.mapi_rel.1 hr⟩
  · rintro ⟨h1, h2⟩
    refine ⟨by simpa using h1, fun j c hj => ?_⟩
    obtain ⟨u, hu, hr⟩ := h2 j _ (by rw [List.getElem?_map, hj]; rfl)
    exact ⟨u, hu, C.mapi_rel.2 hr⟩
theorem LV.mapi_rel {l : LV} {v : Value} : LV.rel w A (M.via ρ) l v ↔ LV.rel w A M (l.mapi ρ) v := by
  cases l with
  | one c => exact C.mapi_rel
  | agg cs => exact exists_congr fun arr => and_congr_right fun _ => cells_mapi
  | tup ps =>
    have hp : ∀ (p : Bool × List C) (u : Value), partRel w A (M.via ρ) p u ↔ partRel w A M (p.1, p.2.map (C.mapi ρ)) u := by
      rintro ⟨b, cs⟩ u
      cases b with
      | true => exact exists_congr fun arr => and_congr_right fun _ => cells_mapi
      | false =>
        match cs with
        | [] => exact Iff.rfl
        | [c] => exact C.mapi_rel
        | _ :: _ :: _ => exact Iff.rfl
    constructor
    · rintro ⟨arr, h1, h2, h3⟩
      refine ⟨arr, h1, by simp [h2], fun j p hj => ?_⟩
      simp only [List.getElem?_map, Option.map_eq_some_iff] at hj
      obtain ⟨q, hq, rfl⟩ := hj
      obtain ⟨u, hu, hr⟩ := h3 j q hq
      exact ⟨u, hu, (hp q u).1 hr⟩
    · rintro ⟨arr, h1, h2, h3⟩
      refine ⟨arr, h1, by simpa using h2, fun j p hj => ?_⟩
      obtain ⟨u, hu, hr⟩ := h3 j (p.1, p.2.map (C.mapi ρ)) (by rw [List.getElem?_map, hj]; rfl)
      exact ⟨u, hu, (hp p u).2 hr⟩
theorem boxBlk_mapi {i : Nat} {b : Box} : boxBlk (M.via ρ) (i, b) = boxBlk M (ρ i, b.mapi ρ) := by cases b <;> rfl
theorem BoxOK_mapi {i : Nat} {b : Box} : BoxOK w A (M.via ρ) i b ↔ BoxOK w A M (ρ i) (b.mapi ρ) := by
  cases b with
  | var cs => exact exists_congr fun arr => exists_congr fun T => and_congr_right fun _ => cells_mapi
  | row e sz es => exact Iff.rfl
  | map P k e m => exact Iff.rfl
  | obj p => exact Iff.rfl
  | mapl Q k l => exact Iff.rfl
  | nest e es c => exact exists_congr fun xs => exists_congr fun v => and_congr_right fun _ => and_congr_right fun _ => and_congr_right fun _ => and_congr_right fun _ => and_congr_left fun _ => C.mapi_rel
theorem BoxOK_keep {ok : Nat → Bool} {i : Nat} {b : Box} (hM : ∀ i, ok i = true → M'.blk i = M.blk i ∧ M'.rv i = M.rv i ∧ M'.sz i = M.sz i) (hi : ok i = true) (h : BoxOK w A M i b) : BoxOK w A M' i (b.keep ok) := by
  obtain ⟨h1, h2, h3⟩ := hM i hi
  cases b with
  | var cs =>
    obtain ⟨arr, T, g1, g2⟩ := h
    exact ⟨arr, T, by rw [h1]; exact g1, cells_keep hM g2⟩
  | row e sz es =>
    obtain ⟨xs, g1, g2, g3, g4, g5⟩ := h
    exact ⟨xs, by rw [h2]; exact g1, g2, by rw [h3]; exact g3, g4, fun k hk => by rw [h1]; exact g5 k (by rw [← h2]; exact hk)⟩
  | map P k e m =>
    obtain ⟨g1, n, g2⟩ := h
    exact ⟨by rw [h1, h2]; exact g1, n, by rw [h1]; exact g2⟩
  | mapl Q k l =>
    show maplOK _ _ _ _ _ _ _
    rw [h1, h2]; exact h
  | obj p =>
    obtain ⟨o, g1, g2, g3⟩ := h
    exact ⟨o, by rw [h1]; exact g1, g2, by rw [h1, h2]; exact g3⟩
  | nest e es c =>
    obtain ⟨xs, v, g1, g2, g3, g4, g5, g6⟩ := h
    exact ⟨xs, v, by rw [h2]; exact g1, g2, by rw [h3]; exact g3, g4, C.keep_rel hM g5, by rw [h1, h2]; exact g6⟩
theorem boxBlk_keep {ok : Nat → Bool} {i : Nat} {b : Box} (hM : M'.blk i = M.blk i ∧ M'.rv i = M.rv i) : boxBlk M' (i, b.keep ok) = boxBlk M (i, b) := by
  cases b <;> simp [Box.keep, boxBlk, hM.1, hM.2]
end

/-! ### contracts -/
inductive CO where
  | ret (l : LV) (bx : List (Nat × Box))
  | pan (d : D) (bx : List (Nat × Box))

def envOf (w : World) (A : Nat → Prop) (n : Nat) (M : BMap) (bx : List (Nat × Box)) : Env := ⟨w, A, n, M, fun k => ∃ p ∈ bx, boxBlk M p = some k, fun i => i ∈ bx.map (·.1), []⟩

def COok (E : Env) (M' : BMap) (w' : World) (e : Ending) : CO → Prop
  | .ret l bx => Boxes E M' w' bx ∧ ∃ v, e = .returned v ∧ LV.rel w' (Av E.A0 M' bx) M' l v
  | .pan d bx => Boxes E M' w' bx ∧ ∃ v, e = .panicked [{ v := v, recovered := false }] ∧ RelD w' (Av E.A0 M' bx) d v

/-- What a call of f makes of its arguments and of the boxes that are handed to it (numbers below n); new boxes have the numbers from n on. -/
def CT (P : Program) (f : FuncId) (n : Nat) (ls : List LV) (bx : List (Nat × Box)) (R : CO → Prop) : Prop :=
  Callable P f ∧ ∀ (w : World) (A : Nat → Prop) (M : BMap) (vs : Array Value), Boxes (envOf w A n M bx) M w bx → vs.size = ls.length → (∀ (j : Nat) (l : LV), ls[j]? = some l → ∃ u, vs[j]? = some u ∧ LV.rel w (Av A M bx) M l u) →
    Calls P f vs w fun e w' => ∃ M' x, R x ∧ COok (envOf w A n M bx) M' w' e x

def ctPost (P : Program) (fn : Func) (R : CO → Prop) : DX → DS → Prop
  | .normal, s => ∃ ls, dres P s fn.results.toList = some ls ∧ R (.ret (resLV ls) s.bx)
  | .ret, s => ∃ ls, dres P s fn.results.toList = some ls ∧ R (.ret (resLV ls) s.bx)
  | .panic d, s => d.scalar = true ∧ R (.pan d s.bx)
  | _, _ => False

theorem takeAll_panics {P : Program} {fn : Func} {tmps : Array Value} {R : Ending → World → Prop} {ch : List PanicEntry} : ∀ (ds : List Deferred) (w w' : World), takeAll P ds w w' → R (.panicked ch) w' →
    LeavesInM Fence.wide 0 P fn tmps R ds (.panicking ch) w
  | [], w, w', h, hr => by
    have : w' = w := h
    subst this
    exact hr
  | d :: ds, w, w', ⟨r, w1, h1, h2, h3⟩, hr => ⟨by simp, .inl ⟨r, w1, h1, h2, takeAll_panics ds w1 w' h3 hr⟩⟩

/-- The same as calls_of_wpM, where the body may panic. -/
theorem calls_of_wpMP {P : Program} {f : FuncId} {fn : Func} {c : Code} {args : Array Value} {w : World} {R : Ending → World → Prop} (hf : P.funcs[f]? = some fn) (hb : fn.body = some c)
    (h : c.wp P (fun e a w' => ∃ w2, takeAll P a.defers w' w2 ∧ (((e = .normal ∨ e = .ret) ∧ ∃ v, (results fn a.tmps).run P w2 = .ok v w2 ∧ R (.returned v) w2) ∨ ∃ ch, e = .panic ch ∧ R (.panicked ch) w2))
      { tmps := args ++ Array.replicate (fn.ntmps - args.size) undef, defers := [] } w) : Calls P f args w R := by
  refine (callsIn_wide (n := 0)).1 (callsIn_of_wp_marks hf hb trivial (wpIn_wide.2 (wp_mono h ?_)) rfl)
  rintro e a w' ⟨w2, h1, ⟨he, h2⟩ | ⟨ch, rfl, h2⟩⟩
  · have key := takeAll_leaves a.defers w' w2 h1 h2
    rcases he with rfl | rfl <;> exact key
  · exact takeAll_panics a.defers w' w2 h1 h2

section
variable {P : Program} {base : Nat} {ops : Array Oper} {Q : DX → DS → Prop} {s : DS}

theorem CT.of_T {f : FuncId} {fn : Func} {c : Code} {n : Nat} {ls : List LV} {bx : List (Nat × Box)} {R : CO → Prop} (hf : P.funcs[f]? = some fn) (hname : (fn.name == "runtime.NumGoroutine") = false) (hb : fn.body = some c)
    (h : T P n c (ctPost P fn R) ⟨ls ++ List.replicate (fn.ntmps - ls.length) (.one .junk), bx⟩) : CT P f n ls bx R := by
  refine ⟨⟨fn, hf, hname, by rw [hb]; rfl⟩, fun w A M vs hbx hsz hvs => ?_⟩
  refine calls_of_wpMP hf hb ?_
  have hst : St (envOf w A n M bx) M w { tmps := vs ++ Array.replicate (fn.ntmps - vs.size) undef, defers := [] } ⟨ls ++ List.replicate (fn.ntmps - ls.length) (.one .junk), bx⟩ := by
    refine ⟨rfl, by simp [hsz], fun t l hl => ?_, hbx⟩
    rw [List.getElem?_append] at hl
    split at hl
    · rename_i hlt
      obtain ⟨u, hu, hr⟩ := hvs t l hl
      have : (vs ++ Array.replicate (fn.ntmps - vs.size) undef).getD t undef = u := by
        rw [Array.getD_eq_getD_getElem?, Array.getElem?_append_left (by rw [hsz]; exact hlt), hu]; rfl
      rw [this]
      exact hr
    · rw [List.getElem?_replicate] at hl
      split at hl
      · cases hl; trivial
      · cases hl
  refine wp_mono (h _ M w _ rfl hst) ?_
  rintro e a' wE ⟨E1, hext, x, s', M', hx, hq, hstE⟩
  obtain ⟨w2, ht, hst'⟩ := St.atEnd (P := P) hext rfl hbx.foreign hstE
  refine ⟨w2, ht, ?_⟩
  have fin : (∃ ls, dres P s' fn.results.toList = some ls ∧ R (.ret (resLV ls) s'.bx)) → ∃ v, (results fn a'.tmps).run P w2 = .ok v w2 ∧ ∃ M' x, R x ∧ COok (envOf w A n M bx) M' w2 (.returned v) x := by
    rintro ⟨rs, h1, h2⟩
    obtain ⟨vs', h3, h4, h5⟩ := dres_run (P := P) hst' _ rs h1
    exact ⟨_, results_run fn a'.tmps vs' h3, M', _, h2, hst'.boxes, _, rfl, resLV_rel h4 h5⟩
  cases x with
  | normal =>
    cases e <;> simp only [XRel] at hx
    exact .inl ⟨.inl rfl, fin hq⟩
  | ret =>
    cases e <;> simp only [XRel] at hx
    exact .inl ⟨.inr rfl, fin hq⟩
  | exit id => exact hq.elim
  | panic d =>
    cases e <;> simp only [XRel] at hx
    obtain ⟨v, rfl, hr⟩ := hx
    exact .inr ⟨_, rfl, M', .pan d s'.bx, hq.2, hst'.boxes, v, rfl, scalar_rel hr hq.1⟩

/-! ### the call -/
def ctρ (hand : List Nat) (nb : Nat) (i : Nat) : Nat := match hand[i]? with | some j => j | none => nb + (i - hand.length)
def ctOk (hand : List Nat) (nb : Nat) (bx' : List (Nat × Box)) (i : Nat) : Bool := Nat.blt i nb && (!(hand.contains i) || bx'.any fun p => Nat.blt p.1 hand.length && ctρ hand nb p.1 == i)
/-- The caller's state behind the call. -/
def DS.after (s : DS) (hand : List Nat) (nb : Nat) (bx' : List (Nat × Box)) : DS :=
  ⟨s.sl.map (LV.keep (ctOk hand nb bx')), ((s.bx.filter fun p => !(hand.contains p.1)).map fun p => (p.1, p.2.keep (ctOk hand nb bx'))) ++ bx'.map fun p => (ctρ hand nb p.1, p.2.mapi (ctρ hand nb))⟩

theorem blk_inj {l : List (Nat × Box)} {g : Nat × Box → Option Nat} (hn : (l.filterMap g).Nodup) {p q : Nat × Box} (hp : p ∈ l) (hq : q ∈ l) {k : Nat} (h1 : g p = some k) (h2 : g q = some k) : p = q := by
  induction l with
  | nil => cases hp
  | cons x l ih =>
    rw [List.filterMap_cons] at hn
    have hmem : ∀ y ∈ l, g y = some k → k ∈ l.filterMap g := fun y hy hk => List.mem_filterMap.2 ⟨y, hy, hk⟩
    rcases List.mem_cons.1 hp with rfl | hp' <;> rcases List.mem_cons.1 hq with rfl | hq'
    · rfl
    · rw [h1] at hn; exact absurd (hmem q hq' h2) (List.nodup_cons.1 hn).1
    · rw [h2] at hn; exact absurd (hmem p hp' h1) (List.nodup_cons.1 hn).1
    · refine ih ?_ hp' hq'
      split at hn
      · exact hn
      · exact (List.nodup_cons.1 hn).2

theorem nodup_fm {l : List (Nat × Box)} {g : Nat × Box → Option Nat} (hn : l.Nodup) (h : ∀ p ∈ l, ∀ q ∈ l, ∀ k, g p = some k → g q = some k → p = q) : (l.filterMap g).Nodup := by
  induction l with
  | nil => simp
  | cons x l ih =>
    have hx := List.nodup_cons.1 hn
    have ih' := ih hx.2 fun p hp q hq => h p (List.mem_cons_of_mem _ hp) q (List.mem_cons_of_mem _ hq)
    rw [List.filterMap_cons]
    split
    · exact ih'
    · rename_i k hk
      refine List.nodup_cons.2 ⟨fun hm => ?_, ih'⟩
      obtain ⟨q, hq, hqk⟩ := List.mem_filterMap.1 hm
      have := h x List.mem_cons_self q (List.mem_cons_of_mem _ hq) k hk hqk
      subst this
      exact hx.1 hq

theorem ctρ_lt {hand : List Nat} {nb i : Nat} (hlt : ∀ j ∈ hand, j < nb) : i < hand.length → ctρ hand nb i < nb ∧ hand[i]? = some (ctρ hand nb i) := by
  intro h
  have : hand[i]? = some hand[i] := List.getElem?_eq_getElem h
  simp only [ctρ, this]
  exact ⟨hlt _ (List.getElem_mem h), trivial⟩
theorem ctρ_ge {hand : List Nat} {nb i : Nat} (h : ¬ i < hand.length) : ctρ hand nb i = nb + (i - hand.length) := by
  have : hand[i]? = none := List.getElem?_eq_none (by omega)
  simp only [ctρ, this]
theorem ctρ_inj {hand : List Nat} {nb : Nat} (hn : hand.Nodup) (hlt : ∀ j ∈ hand, j < nb) {i j : Nat} (h : ctρ hand nb i = ctρ hand nb j) : i = j := by
  by_cases hi : i < hand.length <;> by_cases hj : j < hand.length
  · have h1 := (ctρ_lt hlt hi).2
    have h2 := (ctρ_lt hlt hj).2
    rw [h] at h1
    exact (List.getElem?_inj hi hn).1 (h1.trans h2.symm)
  · have h1 := (ctρ_lt hlt hi).1
    rw [h, ctρ_ge hj] at h1; omega
  · have h1 := (ctρ_lt hlt hj).1
    rw [← h, ctρ_ge hi] at h1; omega
  · rw [ctρ_ge hi, ctρ_ge hj] at h; omega

def ctBack (hand : List Nat) (nb : Nat) (i : Nat) : Option Nat := if nb ≤ i then some (i - nb + hand.length) else if hand.contains i then some (hand.idxOf i) else none
def ctMap (hand : List Nat) (nb : Nat) (M M' : BMap) : BMap :=
  ⟨fun i => match ctBack hand nb i with | some j => M'.blk j | none => M.blk i, fun i => match ctBack hand nb i with | some j => M'.rv j | none => M.rv i, fun i => match ctBack hand nb i with | some j => M'.sz j | none => M.sz i⟩
theorem ctBack_ρ {hand : List Nat} {nb : Nat} (hn : hand.Nodup) (hlt : ∀ j ∈ hand, j < nb) (i : Nat) : ctBack hand nb (ctρ hand nb i) = some i := by
  unfold ctBack
  by_cases hi : i < hand.length
  · obtain ⟨h1, h2⟩ := ctρ_lt hlt hi
    rw [if_neg (by omega)]
    have hm := List.mem_of_getElem? h2
    rw [if_pos (by simpa using hm)]
    obtain ⟨h3, h4⟩ := List.getElem?_eq_some_iff.1 h2
    congr 1
    rw [← h4]
    exact List.Nodup.idxOf_getElem hn i h3
  · rw [ctρ_ge hi, if_pos (by omega)]
    congr 1; omega
theorem ctMap_via {hand : List Nat} {nb : Nat} (hn : hand.Nodup) (hlt : ∀ j ∈ hand, j < nb) (M M' : BMap) : (ctMap hand nb M M').via (ctρ hand nb) = M' := by
  cases M'
  simp only [BMap.via, ctMap, ctBack_ρ hn hlt]

set_option maxHeartbeats 1000000 in
/-- What the caller's state is behind a call with boxes. -/
theorem St.after {E : Env} {M M' : BMap} {w w' : World} {a : Act} {hand : List Nat} {nb : Nat} {bx bx' : List (Nat × Box)} {A' : Nat → Prop} (hst : St E M w a s) (hn : hand.Nodup) (hlt : ∀ j ∈ hand, j < nb) (hb : E.base ≤ nb) (hsn : ∀ p ∈ s.bx, p.1 < nb)
    (hbn : ∀ p ∈ bx, p.1 < hand.length) (hlook : ∀ p ∈ bx, (ctρ hand nb p.1, p.2.mapi (ctρ hand nb)) ∈ s.bx) (hA' : ∀ b, A' b ↔ Av E.A0 M s.bx b ∧ ¬ ∃ p ∈ bx, boxBlk (M.via (ctρ hand nb)) p = some b)
    (hbx : Boxes (envOf w A' hand.length (M.via (ctρ hand nb)) bx) M' w' bx') (hcover : ∀ p ∈ s.bx, hand.contains p.1 = true → ∃ q ∈ bx, ctρ hand nb q.1 = p.1) :
    St E (ctMap hand nb M M') w' a (s.after hand nb bx') := by
  have hvia := ctMap_via hn hlt M M'
  have hO : ∀ k, (envOf w A' hand.length (M.via (ctρ hand nb)) bx).O k → ∃ p ∈ s.bx, hand.contains p.1 = true ∧ boxBlk M p = some k := by
    rintro k ⟨p, hp, hk⟩
    refine ⟨_, hlook p hp, ?_, by rw [← boxBlk_mapi]; exact hk⟩
    have := (ctρ_lt hlt (hbn p hp)).2
    simpa using List.mem_of_getElem? this
  have hrest : ∀ p ∈ s.bx, hand.contains p.1 = false → ∀ k, boxBlk M p = some k → k < w.heap.size ∧ ¬ (envOf w A' hand.length (M.via (ctρ hand nb)) bx).O k := by
    intro p hp hc k hk
    refine ⟨(hst.boxes.new p hp k hk).2, fun ho => ?_⟩
    obtain ⟨q, hq, hqc, hqk⟩ := hO k ho
    have := blk_inj hst.boxes.blks hp hq hk hqk
    subst this
    rw [hc] at hqc; cases hqc
  have hMrest : ∀ i, i < nb → hand.contains i = false → (ctMap hand nb M M').blk i = M.blk i ∧ (ctMap hand nb M M').rv i = M.rv i ∧ (ctMap hand nb M M').sz i = M.sz i := by
    intro i hi hc
    have : ctBack hand nb i = none := by unfold ctBack; rw [if_neg (by omega), if_neg (by simpa using hc)]
    simp only [ctMap, this, and_self]
  have hMat : ∀ j, (ctMap hand nb M M').blk (ctρ hand nb j) = M'.blk j ∧ (ctMap hand nb M M').rv (ctρ hand nb j) = M'.rv j ∧ (ctMap hand nb M M').sz (ctρ hand nb j) = M'.sz j := by
    intro j
    simp only [ctMap, ctBack_ρ hn hlt, and_self]
  have hok : ∀ i, ctOk hand nb bx' i = true → (ctMap hand nb M M').blk i = M.blk i ∧ (ctMap hand nb M M').rv i = M.rv i ∧ (ctMap hand nb M M').sz i = M.sz i := by
    intro i hi
    simp only [ctOk, Bool.and_eq_true, Bool.or_eq_true, Bool.not_eq_true', List.any_eq_true, beq_iff_eq, Nat.blt_eq] at hi
    obtain ⟨h1, h2 | ⟨p, hp, h3, h4⟩⟩ := hi
    · exact hMrest i h1 h2
    · obtain ⟨_, g1, g2, g3⟩ := hbx.old p hp h3
      rw [← h4]
      obtain ⟨k1, k2, k3⟩ := hMat p.1
      exact ⟨k1.trans g1, k2.trans g2, k3.trans g3⟩
  have hfr := hbx.frame
  have hsize := hfr.size
  have hnew : ∀ p ∈ bx', ∀ k, boxBlk M' p = some k → ((∃ q ∈ s.bx, hand.contains q.1 = true ∧ boxBlk M q = some k) ∨ w.heap.size ≤ k) ∧ k < w'.heap.size := by
    intro p hp k hk
    obtain ⟨h1, h2⟩ := hbx.new p hp k hk
    exact ⟨h1.imp (hO k) id, h2⟩
  have hAvsub : ∀ b, Av E.A0 (ctMap hand nb M M') (s.after hand nb bx').bx b → Av E.A0 M s.bx b ∨ w.heap.size ≤ b := by
    rintro b (hb | ⟨p, hp, hk⟩)
    · exact .inl (.inl hb)
    · simp only [DS.after, List.mem_append, List.mem_map, List.mem_filter, Bool.not_eq_true'] at hp
      rcases hp with ⟨q, ⟨hq, hc⟩, rfl⟩ | ⟨q, hq, rfl⟩
      · obtain ⟨g1, g2, _⟩ := hMrest q.1 (hsn q hq) hc
        rw [boxBlk_keep ⟨g1, g2⟩] at hk
        exact .inl (.inr ⟨q, hq, hk⟩)
      · rw [← boxBlk_mapi, hvia] at hk
        rcases (hnew q hq b hk).1 with ⟨r, hr, _, hrk⟩ | h
        · exact .inl (.inr ⟨r, hr, hrk⟩)
        · exact .inr h
  have hKeeps : Keeps w (Av E.A0 M s.bx) w' (Av E.A0 (ctMap hand nb M M') (s.after hand nb bx').bx) := by
    intro b off u h1 h2
    have hblt := World.block_lt_of_cell? w ⟨b, off, none⟩ h2
    have hnO : ¬ (envOf w A' hand.length (M.via (ctρ hand nb)) bx).O b := fun ho => by
      obtain ⟨q, hq, _, hqk⟩ := hO b ho
      exact h1 (.inr ⟨q, hq, hqk⟩)
    refine ⟨fun h3 => ?_, by rw [World.cell?_of_block (hfr.block b hblt hnO)]; exact h2⟩
    rcases hAvsub b h3 with h4 | h4
    · exact h1 h4
    · exact absurd hblt (Nat.not_lt.2 h4)
  have hAveq : ∀ b, Av E.A0 (ctMap hand nb M M') (s.after hand nb bx').bx b → Av A' M' bx' b := by
    rintro b (hb | ⟨p, hp, hk⟩)
    · refine .inl ((hA' b).2 ⟨.inl hb, fun ho => ?_⟩)
      obtain ⟨q, hq, _, hqk⟩ := hO b ho
      have h1 := hst.boxes.new q hq b hqk
      have h2 := hst.boxes.foreign b hb
      rcases h1.1 with h3 | h3
      · exact h2.2 h3
      · omega
    · simp only [DS.after, List.mem_append, List.mem_map, List.mem_filter, Bool.not_eq_true'] at hp
      rcases hp with ⟨q, ⟨hq, hc⟩, rfl⟩ | ⟨q, hq, rfl⟩
      · obtain ⟨g1, g2, _⟩ := hMrest q.1 (hsn q hq) hc
        rw [boxBlk_keep ⟨g1, g2⟩] at hk
        exact .inl ((hA' b).2 ⟨.inr ⟨q, hq, hk⟩, (hrest q hq hc b hk).2⟩)
      · rw [← boxBlk_mapi, hvia] at hk
        exact .inr ⟨q, hq, hk⟩
  refine ⟨hst.defers, by simp [DS.after, hst.size], fun t l hl => ?_, ?_⟩
  · simp only [DS.after, List.getElem?_map, Option.map_eq_some_iff] at hl
    obtain ⟨l', hl', rfl⟩ := hl
    exact LV.keep_rel hok ((hst.slots t l' hl').mono hKeeps)
  have hndids : (s.bx.map (·.1)).Nodup := hst.boxes.ids
  have idsrest : ((s.bx.filter fun p => !(hand.contains p.1)).map (·.1)).Nodup := hndids.sublist (List.filter_sublist.map _)
  have idsnew : (bx'.map fun p => ctρ hand nb p.1).Nodup := by
    have := hbx.ids
    rw [List.nodup_iff_pairwise_ne, List.pairwise_map] at this ⊢
    exact this.imp fun h e => h (ctρ_inj hn hlt e)
  have hidnew : ∀ p ∈ bx', hand.contains (ctρ hand nb p.1) = true ∨ nb ≤ ctρ hand nb p.1 := by
    intro p hp
    by_cases hi : p.1 < hand.length
    · exact .inl (by simpa using List.mem_of_getElem? (ctρ_lt hlt hi).2)
    · exact .inr (by rw [ctρ_ge hi]; omega)
  have hids : ((s.after hand nb bx').bx.map (·.1)).Nodup := by
    simp only [DS.after, List.map_append, List.map_map]
    rw [List.nodup_append]
    refine ⟨by simpa [Function.comp_def] using idsrest, by simpa [Function.comp_def] using idsnew, fun x hx y hy e => ?_⟩
    simp only [List.mem_map, Function.comp, List.mem_filter, Bool.not_eq_true'] at hx hy
    obtain ⟨p, ⟨hp, hc⟩, rfl⟩ := hx
    obtain ⟨q, hq, rfl⟩ := hy
    rcases hidnew q hq with h | h
    · rw [← e, hc] at h; cases h
    · have := hsn p hp; omega
  exact {
    ok := fun id b hb => by
      simp only [DS.after, List.mem_append, List.mem_map, List.mem_filter, Bool.not_eq_true'] at hb
      rcases hb with ⟨q, ⟨hq, hc⟩, e⟩ | ⟨q, hq, e⟩
      · cases e
        have hi := hsn q hq
        have hoki : ctOk hand nb bx' q.1 = true := by
          simp only [ctOk, Bool.and_eq_true, Bool.or_eq_true, Bool.not_eq_true', Nat.blt_eq]
          exact ⟨hi, .inl hc⟩
        refine BoxOK_keep hok hoki ((hst.boxes.ok q.1 q.2 hq).mono hKeeps fun k hk => ?_)
        obtain ⟨h1, h2⟩ := hrest q hq hc k hk
        exact hfr.block k h1 h2
      · cases e
        have := hbx.ok q.1 q.2 hq
        rw [← hvia] at this
        rw [hvia] at this
        have h2 : BoxOK w' (Av E.A0 (ctMap hand nb M M') (s.after hand nb bx').bx) ((ctMap hand nb M M').via (ctρ hand nb)) q.1 q.2 := by
          rw [hvia]; exact this.mono (Keeps.sub hAveq) (fun _ _ => rfl)
        exact BoxOK_mapi.1 h2
    ids := hids
    blks := by
      refine nodup_fm (nodup_of_map hids) fun p hp q hq k hpk hqk => ?_
      simp only [DS.after, List.mem_append, List.mem_map, List.mem_filter, Bool.not_eq_true'] at hp hq
      rcases hp with ⟨x, ⟨hx, hxc⟩, rfl⟩ | ⟨x, hx, rfl⟩ <;> rcases hq with ⟨y, ⟨hy, hyc⟩, rfl⟩ | ⟨y, hy, rfl⟩
      · obtain ⟨g1, g2, _⟩ := hMrest x.1 (hsn x hx) hxc
        obtain ⟨g3, g4, _⟩ := hMrest y.1 (hsn y hy) hyc
        rw [boxBlk_keep ⟨g1, g2⟩] at hpk
        rw [boxBlk_keep ⟨g3, g4⟩] at hqk
        rw [blk_inj hst.boxes.blks hx hy hpk hqk]
      · obtain ⟨g1, g2, _⟩ := hMrest x.1 (hsn x hx) hxc
        rw [boxBlk_keep ⟨g1, g2⟩] at hpk
        rw [← boxBlk_mapi, hvia] at hqk
        obtain ⟨h1, h2⟩ := hrest x hx hxc k hpk
        rcases (hbx.new y hy k hqk).1 with h3 | h3
        · exact absurd h3 h2
        · exact absurd h1 (Nat.not_lt.2 h3)
      · obtain ⟨g1, g2, _⟩ := hMrest y.1 (hsn y hy) hyc
        rw [boxBlk_keep ⟨g1, g2⟩] at hqk
        rw [← boxBlk_mapi, hvia] at hpk
        obtain ⟨h1, h2⟩ := hrest y hy hyc k hqk
        rcases (hbx.new x hx k hpk).1 with h3 | h3
        · exact absurd h3 h2
        · exact absurd h1 (Nat.not_lt.2 h3)
      · rw [← boxBlk_mapi, hvia] at hpk hqk
        rw [blk_inj hbx.blks hx hy hpk hqk]
    new := fun p hp k hk => by
      simp only [DS.after, List.mem_append, List.mem_map, List.mem_filter, Bool.not_eq_true'] at hp
      rcases hp with ⟨q, ⟨hq, hc⟩, rfl⟩ | ⟨q, hq, rfl⟩
      · obtain ⟨g1, g2, _⟩ := hMrest q.1 (hsn q hq) hc
        rw [boxBlk_keep ⟨g1, g2⟩] at hk
        obtain ⟨h1, h2⟩ := hst.boxes.new q hq k hk
        exact ⟨h1, Nat.lt_of_lt_of_le h2 hsize⟩
      · rw [← boxBlk_mapi, hvia] at hk
        obtain ⟨h1, h2⟩ := hnew q hq k hk
        refine ⟨?_, h2⟩
        rcases h1 with ⟨r, hr, _, hrk⟩ | h1
        · exact (hst.boxes.new r hr k hrk).1
        · exact .inr (Nat.le_trans hst.boxes.frame.size h1)
    foreign := hst.boxes.foreign
    frame := by
      have h2 := hst.boxes.frame
      refine ⟨hfr.os.trans h2.os, hfr.tape.trans h2.tape, hfr.output.trans h2.output, Nat.le_trans h2.size hfr.size, fun k hk hok => ?_⟩
      refine (hfr.block k (Nat.lt_of_lt_of_le hk h2.size) fun hob => ?_).trans (h2.block k hk hok)
      obtain ⟨q, hq, _, hqk⟩ := hO k hob
      rcases (hst.boxes.new q hq k hqk).1 with h3 | h3
      · exact hok h3
      · have : E.w0.heap.size ≤ k := h3
        omega
    old := fun p hp hlt' => by
      simp only [DS.after, List.mem_append, List.mem_map, List.mem_filter, Bool.not_eq_true'] at hp
      rcases hp with ⟨q, ⟨hq, hc⟩, rfl⟩ | ⟨q, hq, rfl⟩
      · obtain ⟨g1, g2, g3⟩ := hMrest q.1 (hsn q hq) hc
        obtain ⟨h1, h2, h3, h4⟩ := hst.boxes.old q hq hlt'
        exact ⟨h1, g1.trans h2, g2.trans h3, g3.trans h4⟩
      · by_cases hi : q.1 < hand.length
        · obtain ⟨hL, g1, g2, g3⟩ := hbx.old q hq hi
          obtain ⟨k1, k2, k3⟩ := hMat q.1
          obtain ⟨r, hr, hre⟩ := List.mem_map.1 hL
          have hm := hlook r hr
          rw [hre] at hm
          obtain ⟨h1, h2, h3, h4⟩ := hst.boxes.old _ hm hlt'
          exact ⟨h1, (k1.trans g1).trans h2, (k2.trans g2).trans h3, (k3.trans g3).trans h4⟩
        · exfalso
          have : ctρ hand nb q.1 = nb + (q.1 - hand.length) := ctρ_ge hi
          have h5 : ctρ hand nb q.1 < E.base := hlt'
          omega }

end
end Go.DL

/-
  The data-level framework, second series, part g: maps from int to bool of the call's own, as sets. Generic in the program; no condition.
-/
set_option linter.unusedVariables false
set_option linter.unusedSimpArgs false
namespace Go.DL
open Go.RowKit Go.Maps

def mapS (l : List Int) : DataW Unit := .map (l.map fun x => (.int .i64 x, .lit (.bool true)))
def smem (l : List Int) (a : Int) : Bool := l.contains a
def sins (x : Int) : List Int → List Int
  | [] => [x]
  | y :: r => if x < y then x :: y :: r else y :: sins x r
def sput (l : List Int) (a : Int) : List Int := sins a (l.filter fun x => !(x == a))

theorem mapS_get (l : List Int) (a : Int) : (mapS l).atKey (.int .i64 a) (.lit (.bool false)) = .lit (.bool (smem l a)) := by
  simp only [mapS, DataW.atKey, smem]
  induction l with
  | nil => rfl
  | cons p l ih =>
    simp only [List.map_cons, List.find?_cons, Lit.sameKey, List.contains_cons]
    by_cases h : p = a
    · subst h; simp
    · have h' : (a == p) = false := by simpa using fun e => h e.symm
      simp only [h, and_false, decide_false, h', Bool.false_or]
      exact ih

theorem mapS_ins (x : Int) (l : List Int) : DataW.insert ((.int .i64 x : Lit), (.lit (.bool true) : DataW Unit)) (l.map fun x => (.int .i64 x, .lit (.bool true))) = (sins x l).map fun x => (.int .i64 x, .lit (.bool true)) := by
  induction l with
  | nil => rfl
  | cons y r ih =>
    simp only [List.map_cons, DataW.insert, sins, Lit.before]
    by_cases h : x < y
    · simp [h]
    · simp only [h, decide_false, if_false, Bool.false_eq_true, List.map_cons]
      rw [ih]

theorem mapS_put (l : List Int) (a : Int) : (mapS l).put (.int .i64 a) (.lit (.bool true)) = mapS (sput l a) := by
  simp only [mapS, DataW.put, sput]
  rw [← mapS_ins, List.filter_map]
  congr 3
  refine List.filter_congr fun p _ => ?_
  simp only [Lit.sameKey, Function.comp_def, true_and]
  by_cases h : p = a <;> simp [h]

theorem mem_sins {x a : Int} {l : List Int} : x ∈ sins a l ↔ x = a ∨ x ∈ l := by
  induction l with
  | nil => simp [sins]
  | cons y r ih =>
    rw [sins]; split
    · simp
    · simp only [List.mem_cons, ih]; constructor
      · rintro (h | h | h) <;> simp [h]
      · rintro (h | h | h) <;> simp [h]
theorem mem_sput {x a : Int} {l : List Int} : x ∈ sput l a ↔ x = a ∨ x ∈ l := by
  rw [sput, mem_sins, List.mem_filter]
  by_cases h : x = a <;> simp [h]
theorem smem_iff {l : List Int} {a : Int} : smem l a = true ↔ a ∈ l := by simp [smem]
theorem smem_sput {l : List Int} {a x : Int} : smem (sput l a) x = (x == a || smem l x) := by
  rw [Bool.eq_iff_iff, smem_iff, mem_sput, Bool.or_eq_true, smem_iff]; simp
theorem sins_sorted {a : Int} {l : List Int} (h : l.Pairwise (· < ·)) (ha : a ∉ l) : (sins a l).Pairwise (· < ·) := by
  induction l with
  | nil => simp [sins]
  | cons y r ih =>
    have h1 := List.pairwise_cons.1 h
    simp only [List.mem_cons, not_or] at ha
    rw [sins]; split
    · rename_i hlt
      exact List.pairwise_cons.2 ⟨fun z hz => by
        rcases List.mem_cons.1 hz with rfl | hz
        · exact hlt
        · exact Int.lt_trans hlt (h1.1 z hz), h⟩
    · rename_i hlt
      refine List.pairwise_cons.2 ⟨fun z hz => ?_, ih h1.2 ha.2⟩
      rcases mem_sins.1 hz with rfl | hz
      · omega
      · exact h1.1 z hz
theorem sput_sorted {a : Int} {l : List Int} (h : l.Pairwise (· < ·)) : (sput l a).Pairwise (· < ·) :=
  sins_sorted (h.filter _) (by simp [List.mem_filter])
theorem sins_length (a : Int) (l : List Int) : (sins a l).length = l.length + 1 := by
  induction l with
  | nil => rfl
  | cons y r ih => rw [sins]; split <;> simp [ih]
theorem sput_old {a : Int} {l : List Int} (h : l.Pairwise (· < ·)) (ha : a ∈ l) : (sput l a).length = l.length := by
  have hn : l.Nodup := h.imp fun h => by omega
  rw [sput, sins_length]
  have e : (l.filter fun x => !(x == a)) = l.erase a := by
    rw [hn.erase_eq_filter]; rfl
  rw [e, List.length_erase_of_mem ha]
  have := List.length_pos_of_mem ha; omega
theorem sput_new {a : Int} {l : List Int} (ha : a ∉ l) : (sput l a).length = l.length + 1 := by
  rw [sput, sins_length, List.filter_eq_self.2]
  intro x hx; simp; rintro rfl; exact ha hx
theorem sput_le (a : Int) (l : List Int) : (sput l a).length ≤ l.length + 1 := by
  rw [sput, sins_length]; have := List.length_filter_le (fun x => !(x == a)) l; omega

section
variable {P : Program} {w : World} {M : BMap} {base : Nat} {Q : DX → DS → Prop} {s : DS}

theorem ownsMapS_size {k e : TypeId} {b n : Nat} {l : List Int} (h : w.ownsMap P k (plainElem P e) b n (mapS l)) : w.ownsMap P k (plainElem P e) b l.length (mapS l) := by
  obtain ⟨es, clock, hb, F, _, hD⟩ := h
  refine ⟨es, clock, hb, F, ?_, hD⟩
  have h2 := congrArg (fun d => match d with | DataW.map es => es.length | _ => 0) hD
  simp only [mapS, List.length_map] at h2
  rw [length_sorted] at h2
  simp at h2
  omega

theorem TL_setPut {ops : Array Oper} {o : Oper} {rest : List Oper} (t k e : TypeId) (id : Nat) (m x y : Operand) (l : List Int) (a : Int) (hop : o.op = .mapUpdate t m x y) (hg : o.guard = none) (hu : P.underlying t = some (.map k e)) (hk : P.underlying k = some (.int .i64)) (he : P.underlying e = some .bool)
    (hm : s.ev m = .one (.own id)) (hx : s.ev x = .one (.dat (.int .i64 a))) (hy : s.ev y = .one (.dat (.bool true))) (hl : s.bx.lookup id = some (.map P k e (mapS l))) (h1 : -9223372036854775808 ≤ a ∧ a ≤ 9223372036854775807) (hn : l.length < maxLen)
    (h : TL P base ops rest Q ((s.setBox id (.map P k e (mapS (sput l a)))).put o.dst UD)) : TL P base ops (o :: rest) Q s := by
  refine TL_estep hg _ (fun E M w act hE hst => ?_) h
  have rm := ev_rel hst.size hst.slots m
  have rx := ev_rel hst.size hst.slots x
  have ry := ev_rel hst.size hst.slots y
  rw [hm] at rm
  rw [hx] at rx
  rw [hy] at ry
  simp only [LV.rel, C.rel] at rm rx ry
  have rx := relD_int rx
  have ry := relD_bool ry
  have hmem := lookup_mem hl
  obtain ⟨g1, n, g2⟩ := hst.boxes.ok id _ hmem
  obtain ⟨w', hrun, r1, r2⟩ := (ownsMapS_size g2).update (int_keyed hk) hu hn (key := .int .i64 a) (kl := .int .i64 a) (val := .bool true) (d := .lit (.bool true)) (ps := []) (by simp [keyOf, hk, mapKey, wf_i64 h1.1 h1.2]) (plainElem_bool he true)
  rw [mapS_put] at r1
  intro K Q' hK
  have hst' : St E M w' act (s.setBox id (.map P k e (mapS (sput l a)))) := hst.setBox (b := .map P k e (mapS (sput l a))) hmem rfl r2 fun A' _ => ⟨g1, _, r1⟩
  have := hK undef w' M (hst'.put o.dst ud_rel)
  unfold Oper.wp
  simp only [execOp, hop, rm, g1, rx, ry, Sem.run_bind, hrun, Result.andThen]
  exact this
end
end Go.DL
namespace Go.DL
/-! ### functions without cells of the call are data -/
section
variable {w : World} {A : Nat → Prop} {M : BMap}
end
end Go.DL
namespace Go.DL
/-! ### paths that meet again -/
end Go.DL

/-
  The data-level framework, second series, part h: what is appended to a row that is cut to its length. Generic in the program; no condition.
-/
set_option linter.unusedVariables false
set_option linter.unusedSimpArgs false
namespace Go.DL
open Go.RowKit Go.Lib

section
variable {P : Program} {w : World} {A : Nat → Prop} {M : BMap} {base : Nat} {Q : DX → DS → Prop} {s : DS}

end
end Go.DL

/-
  The data-level framework, second series, part i: slices.Sort at an own row of integers. Generic in the program; no condition.
-/
set_option linter.unusedVariables false
set_option linter.unusedSimpArgs false
namespace Go.DL
open Go.RowKit Go.Lib

abbrev eI (x : Int) : D := .int .i64 x
/-- Numbers, ascending. -/
def srtI (d : List Int) : List Int := d.mergeSort fun x y => decide (x ≤ y)
theorem srtI_length (d : List Int) : (srtI d).length = d.length := by simp [srtI]
theorem srtI_perm (d : List Int) : (srtI d).Perm d := List.mergeSort_perm d _

def SortIOK (P : Program) (f : FuncId) (e : TypeId) : Prop :=
  Callable P f ∧ (∀ (w : World) (p : Option Addr) (cap : Nat), Calls P f #[.slice p 0 cap] w fun x w' => x = .returned (.tuple #[]) ∧ w' = w) ∧
  ∀ (w : World) (blk cap : Nat) (cur : Array Value) (d : List Int), d.length < 4611686018427387904 → w.heap[blk]? = some (.cells cur e (0, 0)) → d.length ≤ cap → cur.size = cap → cur.toList.take d.length = rowV (d.map eI) →
    Calls P f #[.slice (some ⟨blk, 0, none⟩) d.length cap] w fun x w' => x = .returned (.tuple #[]) ∧
      ∃ cur', w.grownBy w' (some blk) ∧ w'.heap[blk]? = some (.cells cur' e (0, 0)) ∧ cur'.size = cur.size ∧ cur'.toList.take d.length = rowV ((srtI d).map eI)

theorem flat_eI (d : List Int) : flat (d.map eI) = d.map eI := by
  induction d with
  | nil => rfl
  | cons x d ih => rw [List.map_cons, flat_cons, ih]; rfl
theorem rowV_eI (d : List Int) : rowV (d.map eI) = d.map fun x => Value.int .i64 x := by
  rw [rowV, flat_eI, List.map_map]; rfl

section
variable {P : Program} {w : World} {A : Nat → Prop} {M : BMap} {base : Nat} {Q : DX → DS → Prop} {s : DS}

theorem TL_sortI {ops : Array Oper} {o : Oper} {rest : List Oper} (f : FuncId) (e : TypeId) {fop x : Operand} {ts : Array TypeId} (hok : SortIOK P f e)
    (ho : o.op = .call { callee := .value fop, args := #[x], argTypes := ts }) (hgd : o.guard = none) (hf : s.ev fop = .one (.fn f [])) (id : Nat) (hx : s.ev x = .one (.own id)) (d : List Int) (hl : s.bx.lookup id = some (.row e 1 (d.map eI)))
    (hlt : d.length < 4611686018427387904)
    (h : TL P base ops rest Q ((s.setBox id (.row e 1 ((srtI d).map eI))).put o.dst UD)) : TL P base ops (o :: rest) Q s := by
  intro E M w a hE hst
  refine wpList_plain hgd fun K hK => ?_
  have hslots := ev_rel hst.size hst.slots
  have hfr := hslots fop
  rw [hf] at hfr
  obtain ⟨cv, hfv, hcs, hcv⟩ := hfr
  have hcv0 : cv = #[] := Array.eq_empty_of_size_eq_zero (by simpa using hcs)
  subst hcv0
  unfold Oper.wp
  rw [run_call_func ho hfv hok.1, Oper.upon_enter]
  have hxr := hslots x
  rw [hx] at hxr
  simp only [LV.rel, C.rel] at hxr
  have hm := lookup_mem hl
  have hsz : ∀ l : List Int, ∀ c ∈ l.map eI, c.cells.length = 1 := fun l c hc => by
    obtain ⟨z, _, rfl⟩ := List.mem_map.1 hc
    rfl
  obtain ⟨xs, ho', hu, hMs, hrel, hblk⟩ := hst.boxes.ok id _ hm
  rw [List.length_map] at ho'
  have hxs : xs = rowV (d.map eI) := by
    rw [rowV_eI]
    apply List.ext_getElem?
    intro j
    rw [List.getElem?_map]
    cases hj : d[j]? with
    | none =>
      have h1 : d.length ≤ j := List.getElem?_eq_none_iff.1 hj
      have h3 := ho'.1
      simp; omega
    | some c =>
      obtain ⟨v, hv, hr⟩ := hrel j (eI c) (by rw [flat_eI, List.getElem?_map, hj]; rfl)
      cases hr
      rw [hv]; rfl
  have hud : LV.rel w (Av E.A0 M s.bx) M UD undef := ud_rel
  by_cases hd0 : d.length = 0
  · have hd : d = [] := List.eq_nil_of_length_eq_zero hd0
    subst hd
    have hargs : ∃ p cap, (#[x] : Array Operand).map a.eval ++ #[] = #[.slice p 0 cap] := by
      rcases ho'.2 with ⟨hrv, _⟩ | ⟨g0, cap, cur, hrv, _⟩
      · exact ⟨none, 0, by simp [hxr, hrv]⟩
      · exact ⟨some ⟨g0, 0, none⟩, cap, by simp [hxr, hrv]⟩
    obtain ⟨p, cap, hargs⟩ := hargs
    rw [hargs]
    refine (hok.2.1 w p cap).mono ?_
    rintro x' w' ⟨rfl, rfl⟩
    refine hK _ _ (h E M w' _ hE ?_)
    have e1 : srtI [] = [] := by simp [srtI]
    rw [e1]
    exact St.put (hst.setBox (b := .row e 1 ((([] : List Int)).map eI)) hm rfl ⟨rfl, rfl, rfl, Nat.le_refl _, fun _ _ _ => rfl⟩ fun A' hA' => ⟨xs, by rw [List.length_map]; exact ho', hu, hMs, fun j c hj => by simp [flat] at hj, hblk⟩) o.dst ud_rel
  · rcases ho'.2 with ⟨_, h1⟩ | ⟨g0, cap, cur, hrv, _, hheap, hcap, hcapm, hcs', htk⟩
    · omega
    have hgb : g0 = M.blk id := hblk g0 (by rw [hrv]; rfl)
    subst hgb
    have hargs : (#[x] : Array Operand).map a.eval ++ #[] = #[.slice (some ⟨M.blk id, 0, none⟩) d.length cap] := by
      simp [hxr, hrv]
    rw [hargs]
    refine (hok.2.2 w (M.blk id) cap cur d hlt hheap hcap (by simpa using hcs') (by rw [← hxs, ← htk, Nat.mul_one])).mono ?_
    rintro x' w' ⟨rfl, cur', hg, hheap', hsz', htk'⟩
    refine hK _ _ (h E M w' _ hE ?_)
    refine St.put (hst.setBox (b := .row e 1 ((srtI d).map eI)) hm rfl ?_ fun A' _ => ?_) o.dst ?_
    · simpa [boxBlk, hrv, Value.ownBlock] using hg
    · refine ⟨rowV ((srtI d).map eI), ⟨?_, .inr ⟨M.blk id, cap, cur', by rw [hrv, List.length_map, srtI_length], Nat.zero_le _, hheap', by rw [List.length_map, srtI_length]; omega, hcapm, by rw [hsz']; exact hcs', ?_⟩⟩, hsz _, hMs, fun j c hj => ⟨toV c, by rw [rowV, List.getElem?_map, hj]; rfl, ?_⟩, hblk⟩
      · rw [rowV_eI, List.length_map, List.length_map, Nat.mul_one]
      · rw [List.length_map, srtI_length, Nat.mul_one]; exact htk'
      · rw [flat_eI, List.getElem?_map, Option.map_eq_some_iff] at hj
        obtain ⟨z, _, rfl⟩ := hj
        exact .int _ _
    · exact ud_rel
end
end Go.DL

/-
  The data-level framework, third series, part a: programs as partial functions: loops, checks, and the rules that follow them. Generic in the program; no condition.
-/
set_option linter.unusedVariables false
set_option linter.unusedSimpArgs false
namespace Go.DL
open Go.RowKit

/-! ### partial functions -/
def iterO {σ ρ : Type} (step : σ → Option (σ ⊕ ρ)) : Nat → σ → Option ρ
  | 0, _ => none
  | n + 1, x => match step x with
    | some (.inl y) => iterO step n y
    | some (.inr r) => some r
    | none => none

theorem iterO_more {σ ρ : Type} {step : σ → Option (σ ⊕ ρ)} {r : ρ} : ∀ {n m : Nat} {x : σ}, n ≤ m → iterO step n x = some r → iterO step m x = some r
  | 0, _, _, _, h => by cases h
  | n + 1, 0, _, hle, _ => by omega
  | n + 1, m + 1, x, hle, h => by
    unfold iterO at h ⊢
    split at h
    · exact iterO_more (by omega) h
    · exact h
    · cases h

theorem iterO_eq {σ ρ : Type} {step : σ → Option (σ ⊕ ρ)} {r r' : ρ} {n m : Nat} {x : σ} (h : iterO step n x = some r) (h' : iterO step m x = some r') : r = r' := by
  rcases Nat.le_total n m with hl | hl
  · rw [iterO_more hl h] at h'; exact Option.some.inj h'
  · rw [iterO_more hl h'] at h; exact (Option.some.inj h).symm

open Classical in
/-- The result of a loop; nothing, if a round fails or the loop does not end. -/
noncomputable def loopO {σ ρ : Type} (step : σ → Option (σ ⊕ ρ)) (x : σ) : Option ρ :=
  if h : ∃ r n, iterO step n x = some r then some h.choose else none

theorem loopO_of {σ ρ : Type} {step : σ → Option (σ ⊕ ρ)} {x : σ} {r : ρ} (n : Nat) (h : iterO step n x = some r) : loopO step x = some r := by
  unfold loopO
  have hex : ∃ r n, iterO step n x = some r := ⟨r, n, h⟩
  rw [dif_pos hex]
  obtain ⟨m, hm⟩ := hex.choose_spec
  rw [iterO_eq hm h]

theorem loopO_iter {σ ρ : Type} {step : σ → Option (σ ⊕ ρ)} {x : σ} {r : ρ} (h : loopO step x = some r) : ∃ n, iterO step n x = some r := by
  unfold loopO at h
  split at h
  · rename_i hex
    cases h
    exact hex.choose_spec
  · cases h

theorem loopO_eq {σ ρ : Type} (step : σ → Option (σ ⊕ ρ)) (x : σ) : loopO step x = match step x with
    | some (.inl y) => loopO step y
    | some (.inr r) => some r
    | none => none := by
  split
  · rename_i y hy
    cases h : loopO step y with
    | none =>
      cases h2 : loopO step x with
      | none => rfl
      | some r =>
        obtain ⟨n, hn⟩ := loopO_iter h2
        cases n with
        | zero => cases hn
        | succ n =>
          rw [iterO, hy] at hn
          rw [loopO_of n hn] at h; cases h
    | some r =>
      obtain ⟨n, hn⟩ := loopO_iter h
      exact loopO_of (n + 1) (by rw [iterO, hy]; exact hn)
  · rename_i r hr
    exact loopO_of 1 (by rw [iterO, hr])
  · rename_i hn
    cases h2 : loopO step x with
    | none => rfl
    | some r =>
      obtain ⟨n, hn'⟩ := loopO_iter h2
      cases n with
      | zero => cases hn'
      | succ n => rw [iterO, hn] at hn'; cases hn'

theorem loopO_inl {σ ρ : Type} {step : σ → Option (σ ⊕ ρ)} {x y : σ} (h : step x = some (.inl y)) : loopO step x = loopO step y := by rw [loopO_eq, h]
theorem loopO_inr {σ ρ : Type} {step : σ → Option (σ ⊕ ρ)} {x : σ} {r : ρ} (h : step x = some (.inr r)) : loopO step x = some r := by rw [loopO_eq, h]

/-- The result is checked: the list has such an element. -/
def gt {α ρ : Type} (l : List α) (i : Int) (k : α → Option ρ) : Option ρ :=
  if 0 ≤ i then match l[i.toNat]? with | some x => k x | none => none else none
def gn {α ρ : Type} (l : List α) (n : Nat) (k : α → Option ρ) : Option ρ :=
  match l[n]? with | some x => k x | none => none
def ck {ρ : Type} (p : Prop) [Decidable p] (k : Option ρ) : Option ρ := if p then k else none
/-- The number is an int. -/
def ckI {ρ : Type} (n : Int) (k : Option ρ) : Option ρ := if -9223372036854775808 ≤ n ∧ n ≤ 9223372036854775807 then k else none
def bd {α ρ : Type} (o : Option α) (k : α → Option ρ) : Option ρ := match o with | some x => k x | none => none
def up {σ ρ : Type} (o : Option ρ) : Option (σ ⊕ ρ) := match o with | some x => some (.inr x) | none => none

section
variable {α ρ σ : Type} {r : ρ}
theorem gt_inv (enc : α → D) {l : List α} {i : Int} {k : α → Option ρ} (h : gt l i k = some r) :
    ∃ x, (0 ≤ i ∧ (l.map enc)[i.toNat]? = some (enc x)) ∧ (0 ≤ i ∧ i < (((l.map enc).length : Nat) : Int)) ∧ (l.map enc)[i.toNat]? = some (enc x) ∧ k x = some r := by
  unfold gt at h
  split at h
  · rename_i h0
    split at h
    · rename_i x hx
      have h1 : (l.map enc)[i.toNat]? = some (enc x) := by rw [List.getElem?_map, hx]; rfl
      have h2 := (List.getElem?_eq_some_iff.1 h1).1
      exact ⟨x, ⟨h0, h1⟩, ⟨h0, by omega⟩, h1, h⟩
    · cases h
  · cases h
theorem gn_inv (enc : α → D) {l : List α} {n : Nat} {k : α → Option ρ} (h : gn l n k = some r) :
    ∃ x, (0 ≤ ((n : Nat) : Int) ∧ (l.map enc)[((n : Nat) : Int).toNat]? = some (enc x)) ∧ (0 ≤ ((n : Nat) : Int) ∧ ((n : Nat) : Int) < (((l.map enc).length : Nat) : Int)) ∧ (l.map enc)[n]? = some (enc x) ∧ k x = some r := by
  unfold gn at h
  split at h
  · rename_i x hx
    have h1 : (l.map enc)[n]? = some (enc x) := by rw [List.getElem?_map, hx]; rfl
    have h2 := (List.getElem?_eq_some_iff.1 h1).1
    exact ⟨x, ⟨by omega, h1⟩, ⟨by omega, by omega⟩, h1, h⟩
  · cases h
theorem gts_inv {l : List UInt8} {i : Int} {k : UInt8 → Option ρ} (h : gt l i k = some r) : ∃ x, (0 ≤ i ∧ l[i.toNat]? = some x) ∧ k x = some r := by
  unfold gt at h
  split at h
  · rename_i h0
    split at h
    · rename_i x hx
      exact ⟨x, ⟨h0, hx⟩, h⟩
    · cases h
  · cases h
theorem ck_inv {p : Prop} [Decidable p] {k : Option ρ} (h : ck p k = some r) : p ∧ k = some r := by
  unfold ck at h
  split at h
  · exact ⟨by assumption, h⟩
  · cases h
theorem ckI_inv {n : Int} {k : Option ρ} (h : ckI n k = some r) : IntKind.i64.wrap n = n ∧ k = some r := by
  unfold ckI at h
  split at h
  · rename_i hn; exact ⟨i64_wrap hn.1 hn.2, h⟩
  · cases h
theorem ckI_in {n : Int} {k : Option ρ} (h : ckI n k = some r) : (-9223372036854775808 ≤ n ∧ n ≤ 9223372036854775807) ∧ k = some r := by
  unfold ckI at h
  split at h
  · rename_i hn; exact ⟨hn, h⟩
  · cases h
theorem bd_inv {o : Option α} {k : α → Option ρ} (h : bd o k = some r) : ∃ x, o = some x ∧ k x = some r := by
  unfold bd at h
  split at h
  · exact ⟨_, rfl, h⟩
  · cases h
theorem up_inv {o : Option ρ} {z : σ ⊕ ρ} (h : up o = some z) (hz : ∀ r', z = .inr r' → r' = r) : o = some r := by
  unfold up at h
  split at h
  · cases h; rw [hz _ rfl]
  · cases h
theorem ite_t {b : Bool} {x y : Option ρ} (hb : b = true) (h : (if b = true then x else y) = some r) : x = some r := by rwa [if_pos hb] at h
theorem ite_f {b : Bool} {x y : Option ρ} (hb : b = false) (h : (if b = true then x else y) = some r) : y = some r := by rwa [if_neg (by rw [hb]; simp)] at h
theorem ifp_t {p : Prop} [Decidable p] {x y : Option ρ} (hp : p) (h : (if p then x else y) = some r) : x = some r := by rwa [if_pos hp] at h
theorem ifp_f {p : Prop} [Decidable p] {x y : Option ρ} (hp : ¬ p) (h : (if p then x else y) = some r) : y = some r := by rwa [if_neg hp] at h
theorem set_inv (enc : α → D) {l : List α} {n : Nat} {d : D} (new : α) (h : (l.map enc)[n]? = some d) : (l.map enc)[n]? = some d ∧ (l.map enc).set n (enc new) = (l.set n new).map enc := ⟨h, by rw [List.map_set]⟩
theorem gt_some {l : List α} {i : Int} {k : α → Option ρ} {x : α} (h : l[i.toNat]? = some x) (h0 : 0 ≤ i) : gt l i k = k x := by simp [gt, h, h0]
theorem gn_some {l : List α} {n : Nat} {k : α → Option ρ} {x : α} (h : l[n]? = some x) : gn l n k = k x := by simp [gn, h]
theorem ck_pos {p : Prop} [Decidable p] {k : Option ρ} (h : p) : ck p k = k := if_pos h
theorem ckI_pos {n : Int} {k : Option ρ} (h1 : -9223372036854775808 ≤ n) (h2 : n ≤ 9223372036854775807) : ckI n k = k := if_pos ⟨h1, h2⟩
@[simp] theorem bd_some {x : α} {k : α → Option ρ} : bd (some x) k = k x := rfl
@[simp] theorem bd_none {k : α → Option ρ} : bd none k = none := rfl
@[simp] theorem up_some {x : ρ} : (up (some x) : Option (σ ⊕ ρ)) = some (.inr x) := rfl
@[simp] theorem up_none : (up (none : Option ρ) : Option (σ ⊕ ρ)) = none := rfl
end

/-! ### states that arrive -/
def DS.LeB (base : Nat) (s s' : DS) : Prop := ∀ (E : Env) (M : BMap) (w : World) (a : Act), E.base = base → St E M w a s → ∃ M', St E M' w a s'
theorem DS.Le.toB {base : Nat} {s s' : DS} (h : s.Le s') : s.LeB base s' := fun E M w a _ hs => h E M w a hs
theorem DS.LeB.refl (base : Nat) (s : DS) : s.LeB base s := fun _ M _ _ _ h => ⟨M, h⟩
theorem DS.LeB.trans {base : Nat} {a b c : DS} (h : a.LeB base b) (h' : b.LeB base c) : a.LeB base c := fun E M w x hb hs => let ⟨M', h1⟩ := h E M w x hb hs; h' E M' w x hb h1

section
variable {P : Program} {base : Nat} {Q : DX → DS → Prop} {s s' : DS}
theorem T_leB {c : Code} (hle : s.LeB base s') (h : T P base c Q s') : T P base c Q s :=
  fun E M w a hb hs => let ⟨M', hs'⟩ := hle E M w a hb hs; h E M' w a hb hs'
theorem TL_leB {ops : Array Oper} {l : List Oper} (hle : s.LeB base s') (h : TL P base ops l Q s') : TL P base ops l Q s :=
  fun E M w a hb hs => let ⟨M', hs'⟩ := hle E M w a hb hs; h E M' w a hb hs'

theorem leB_ownSlot (t id : Nat) (e : TypeId) (sz : Nat) (h : s.ownSlot t id e sz = some s') (hb : Nat.ble base id = true) : s.LeB base s' := by
  intro E M w a hE hst
  unfold DS.ownSlot at h
  split at h
  · rename_i hs
    simp only [Option.some.injEq] at h
    subst h
    have h1 := hst.pushNil id e sz (by rw [hE]; exact Nat.le_of_ble_eq_true hb)
    refine ⟨_, h1.defers, by rw [h1.size]; simp [DS.push], fun t' l hl => ?_, h1.boxes⟩
    simp only [List.getElem?_set] at hl
    split at hl
    · rename_i he
      subst he
      split at hl
      · cases hl
        have h2 := h1.slots t _ hs
        simp only [LV.rel, C.rel] at h2 ⊢
        rw [nil_rel h2]
        simp [BMap.upd]
      · cases hl
    · exact h1.slots t' l hl
  · cases h

theorem leB_ownCell (i off id : Nat) (e : TypeId) (sz : Nat) (h : s.ownCell i off id e sz = some s') (hb : Nat.ble base id = true) : s.LeB base s' := by
  intro E M w a hE hst
  unfold DS.ownCell at h
  split at h
  · rename_i cs hl
    split at h
    · rename_i hc
      simp only [Option.some.injEq] at h
      subst h
      have h1 := hst.pushNil id e sz (by rw [hE]; exact Nat.le_of_ble_eq_true hb)
      have hm := lookup_mem hl
      refine ⟨_, (h1.setBox (b := .var (cs.set off (.own id))) hm rfl ⟨rfl, rfl, rfl, Nat.le_refl _, fun _ _ _ => rfl⟩ fun A' hA' => ?_)⟩
      obtain ⟨arr, T, hg, hcr⟩ := h1.boxes.ok i _ hm
      refine ⟨arr, T, hg, by rw [hcr.1, List.length_set], fun j c hj => ?_⟩
      rw [List.getElem?_set] at hj
      split at hj
      · rename_i he
        subst he
        split at hj
        · cases hj
          obtain ⟨u, hu, hr⟩ := hcr.2 off _ hc
          simp only [C.rel] at hr
          exact ⟨u, hu, by rw [nil_rel hr]; simp [C.rel, BMap.upd]⟩
        · cases hj
      · obtain ⟨u, hu, hr⟩ := hcr.2 j c hj
        exact ⟨u, hu, hr.mono hA'⟩
    · cases h
  · cases h

/-- A cell of a box that is nil is taken as an empty list. -/
def DS.unnilC (i off sz : Nat) (s : DS) : Option DS :=
  match s.bx.lookup i with
  | some (.var cs) => some (s.setBox i (.var (cs.modify off (C.unnil sz))))
  | _ => none
theorem le_unnilC (i off sz : Nat) (h : s.unnilC i off sz = some s') : s.Le s' := by
  intro E M w a hst
  unfold DS.unnilC at h
  split at h
  · rename_i cs hl
    simp only [Option.some.injEq] at h
    subst h
    have hm := lookup_mem hl
    refine ⟨_, (hst.setBox (b := .var (cs.modify off (C.unnil sz))) hm rfl ⟨rfl, rfl, rfl, Nat.le_refl _, fun _ _ _ => rfl⟩ fun A' hA' => ?_)⟩
    obtain ⟨arr, T, hg, hcr⟩ := hst.boxes.ok i _ hm
    refine ⟨arr, T, hg, by rw [hcr.1, List.length_modify], fun j c hj => ?_⟩
    rw [List.getElem?_modify] at hj
    simp only [Option.map_eq_map, Option.map_eq_some_iff] at hj
    obtain ⟨c', hc', rfl⟩ := hj
    obtain ⟨u, hu, hr⟩ := hcr.2 j c' hc'
    refine ⟨u, hu, ?_⟩
    split
    · exact C.unnil_rel (hr.mono hA')
    · exact hr.mono hA'
  · cases h

/-- A row of the call's own as a part of itself. -/
def DS.asPart (t : Nat) (s : DS) : Option DS :=
  match s.sl[t]? with
  | some (.one (.own id)) => match s.bx.lookup id with
    | some (.row _ _ es) => some { s with sl := s.sl.set t (.one (.part id 0 es.length)) }
    | _ => none
  | _ => none
theorem le_asPart (t : Nat) (h : s.asPart t = some s') : s.Le s' := by
  intro E M w a hst
  unfold DS.asPart at h
  split at h
  · rename_i id hs
    split at h
    · rename_i e sz es hl
      simp only [Option.some.injEq] at h
      subst h
      refine ⟨M, hst.defers, by rw [hst.size]; simp, fun t' l hl' => ?_, hst.boxes⟩
      simp only [List.getElem?_set] at hl'
      split at hl'
      · rename_i he
        subst he
        split at hl'
        · cases hl'
          have h2 := hst.slots t _ hs
          obtain ⟨xs, ho, _, hM, _, hblk⟩ := hst.boxes.ok id _ (lookup_mem hl)
          simp only [LV.rel, C.rel] at h2
          rcases ho.2 with ⟨hrv, h0⟩ | ⟨g, cap, cur, hrv, _, hg, hnc, _⟩
          · exact ⟨none, 0, by rw [h2, hrv, h0], by omega, .inr h0⟩
          · have hgb : g = M.blk id := hblk g (by rw [hrv]; rfl)
            subst hgb
            exact ⟨_, cap, by rw [h2, hrv], hnc, .inl (by simp)⟩
        · cases hl'
      · exact hst.slots t' l hl'
    · cases h
  · cases h

/-- How a state is written otherwise. -/
inductive Co where
  | asPart (t : Nat)
  | ownS (t id : Nat) (e : TypeId) (sz : Nat)
  | ownC (i off id : Nat) (e : TypeId) (sz : Nat)
  | ren (i j : Nat)
  | nilS (t j sz : Nat)
  | nilC (i off sz : Nat)
  | ice (i : Nat)

def Co.run (base : Nat) : Co → DS → Option DS
  | .ownS t id e sz, s => match Nat.ble base id with | true => s.ownSlot t id e sz | false => none
  | .ownC i off id e sz, s => match Nat.ble base id with | true => s.ownCell i off id e sz | false => none
  | .ren i j, s => match i == j, Nat.ble base j with | false, true => some (s.ren i j) | _, _ => none
  | .nilS t j sz, s => some (s.unnil t j sz)
  | .nilC i off sz, s => s.unnilC i off sz
  | .ice i, s => some (s.freeze i)
  | .asPart t, s => s.asPart t

theorem Co.le {co : Co} (h : co.run base s = some s') : s.LeB base s' := by
  cases co with
  | ownS t id e sz =>
    simp only [Co.run] at h
    split at h
    · exact leB_ownSlot t id e sz h (by assumption)
    · cases h
  | ownC i off id e sz =>
    simp only [Co.run] at h
    split at h
    · exact leB_ownCell i off id e sz h (by assumption)
    · cases h
  | ren i j =>
    simp only [Co.run] at h
    split at h
    · rename_i h1 h2
      cases h
      exact DS.le_ren s i j h1 h2
    · cases h
  | nilS t j sz => simp only [Co.run, Option.some.injEq] at h; subst h; exact (DS.le_unnil s t j sz).toB
  | nilC i off sz => exact (le_unnilC i off sz h).toB
  | ice i => simp only [Co.run, Option.some.injEq] at h; subst h; exact (DS.le_freeze s i).toB
  | asPart t => exact (le_asPart t h).toB

def coAll (base : Nat) : List Co → DS → Option DS
  | [], s => some s
  | c :: cs, s => match c.run base s with | some s1 => coAll base cs s1 | none => none

theorem coAll_le : ∀ {cs : List Co} {s s' : DS}, coAll base cs s = some s' → s.LeB base s'
  | [], s, s', h => by cases h; exact DS.LeB.refl _ _
  | c :: cs, s, s', h => by
    unfold coAll at h
    split at h
    · rename_i s1 h1; exact (Co.le h1).trans (coAll_le h)
    · cases h

/-- Written otherwise, with what is not kept forgotten, and the boxes in the order of their numbers. -/
def arrive (base : Nat) (cs : List Co) (live dead ids : List Nat) (s : DS) : Option DS :=
  match coAll base cs s with
  | some s1 => match decide ids.Nodup && ((s1.prune live dead).bx.all fun p => ids.contains p.1) with
    | true => some ((s1.prune live dead).order ids)
    | false => none
  | none => none

theorem arr (cs : List Co) (live dead ids : List Nat) (h : arrive base cs live dead ids s = some s') : s.LeB base s' := by
  unfold arrive at h
  split at h
  · rename_i s1 h1
    split at h
    · rename_i h2
      cases h
      rw [Bool.and_eq_true] at h2
      exact (coAll_le h1).trans (QE_turn (Q := fun _ _ => True) live dead ids rfl h2.1 h2.2 : s1.Le _).toB
    · cases h
  · cases h

theorem T_arr {c : Code} (cs : List Co) (live dead ids : List Nat) (s' : DS) (h : arrive base cs live dead ids s = some s') (hq : T P base c Q s') : T P base c Q s := T_leB (arr cs live dead ids h) hq
/-- Ways that meet: what holds where they meet is shown once. -/
theorem T_seqJ {α : Type} {x y : Code} (st : α → DS) (G : α → Prop) (hy : ∀ v, G v → T P base y Q (st v)) (hx : T P base x (DX.andThen (fun s' => ∃ v, G v ∧ s'.LeB base (st v)) Q) s) : T P base (.seq x y) Q s :=
  T_seq (T_mono (fun dx s' h => by
    cases dx with
    | normal => obtain ⟨v, hv, hle⟩ := h; exact T_leB hle (hy v hv)
    | _ => exact h) hx)

theorem wpList_mono {ops : Array Oper} {R R' : Exit → Act → World → Prop} (h : ∀ e a w, R e a w → R' e a w) : ∀ (l : List Oper) (a : Act) (w : World), wpList P ops R l a w → wpList P ops R' l a w
  | [], _, _, hh => h _ _ _ hh
  | o :: l, a, w, hh => by
    unfold wpList at hh ⊢
    split
    · rename_i hw
      rw [if_pos hw] at hh
      exact hh.imp (Oper.wp_mono2 (fun a w => wpList_mono h l a w) fun e a w _ => h e a w) (fun ⟨hx, x, a', y⟩ => ⟨hx, x, a', h _ _ _ y⟩)
    · rename_i hw
      rw [if_neg hw] at hh
      exact wpList_mono h l _ _ hh

/-- Operations that meet. -/
theorem TL_consJ {α : Type} {ops : Array Oper} {o : Oper} {rest : List Oper} (st : α → DS) (G : α → Prop) (hy : ∀ v, G v → TL P base ops rest Q (st v)) (hx : TL P base ops [o] (DX.andThen (fun s' => ∃ v, G v ∧ s'.LeB base (st v)) Q) s) : TL P base ops (o :: rest) Q s := by
  intro E M w a hE hst
  have h1 := hx E M w a hE hst
  have key : ∀ a w, Lift E (DX.andThen (fun s' => ∃ v, G v ∧ s'.LeB base (st v)) Q) .normal a w → wpList P ops (Lift E Q) rest a w := by
    rintro a w ⟨E', hext, x, s', M', hx, hq, hst'⟩
    cases x <;> simp only [XRel] at hx
    obtain ⟨v, hv, hle⟩ := hq
    obtain ⟨M'', h2⟩ := hle E' M' w a (hext.base.trans hE) hst'
    exact wpList_mono (fun _ _ _ => Lift.ext hext) _ _ _ (hy v hv E' M'' w a (hext.base.trans hE) h2)
  unfold wpList at h1 ⊢
  split
  · rename_i hw
    rw [if_pos hw] at h1
    rcases h1 with h1 | h1
    · refine .inl (Oper.wp_mono2 key ?_ h1)
      rintro e a w hne ⟨E', hext, x, s', M', hx, hq, hst'⟩
      refine ⟨E', hext, x, s', M', hx, ?_, hst'⟩
      cases x with
      | normal => cases e <;> simp_all [XRel]
      | _ => exact hq
    · exact absurd h1.2 no_out
  · rename_i hw
    rw [if_neg hw] at h1
    exact key _ _ h1

/-- A loop whose rounds are a partial function. -/
theorem T_loopO {c : Code} {σ ρ : Type} (st : σ → DS) (step : σ → Option (σ ⊕ ρ)) (x0 : σ) {r : ρ} (h0 : loopO step x0 = some r)
    (h : ∀ x z, (∀ r', z = .inr r' → r' = r) → step x = some z → T P base c (DX.andThen (fun s' => ∃ y, some (Sum.inl y) = some z ∧ s'.LeB base (st y)) Q) (st x)) : T P base (.loop c) Q (st x0) := by
  obtain ⟨n0, hn0⟩ := loopO_iter h0
  intro E M w a hb hs b k cs
  have key : ∀ n x, iterO step n x = some r → ∀ E1, EnvExt E E1 → ∀ M w a, St E1 M w a (st x) →
      ∃ e a' w', Lift E Q e a' w' ∧ Arrives P (lone (b.at a (.code c :: .inLoop c :: k)) cs w) b k cs e a' w' := by
    intro n
    induction n with
    | zero => intro x hx; cases hx
    | succ n ih =>
      intro x hx E1 hext M w a hst
      rw [iterO] at hx
      obtain ⟨z, hz, hz1⟩ : ∃ z, step x = some z ∧ ∀ y, z = .inl y → iterO step n y = some r := by
        split at hx
        · rename_i y hy; exact ⟨_, hy, fun y' e => by cases e; exact hx⟩
        · rename_i r' hr'; exact ⟨_, hr', fun y' e => by cases e⟩
        · cases hx
      have hz2 : ∀ r', z = .inr r' → r' = r := fun r' e => by
        subst e; rw [hz] at hx; exact Option.some.inj hx
      obtain ⟨e, a1, w1, hq, harr⟩ := h x z hz2 hz E1 M w a (hext.base.trans hb) hst b (.inLoop c :: k) cs
      obtain ⟨E2, hext2, dx, s', M', hx', hq, hst'⟩ := hq
      have hx12 := hext.trans hext2
      cases dx with
      | normal =>
        cases e <;> simp only [XRel] at hx'
        obtain ⟨y, hy, hle⟩ := hq
        obtain ⟨M'', hst''⟩ := hle E2 M' w1 a1 (hx12.base.trans hb) hst'
        obtain ⟨e2, a2, w2, hq2, harr2⟩ := ih y (hz1 y (Option.some.inj hy).symm) E2 hx12 M'' w1 a1 hst''
        exact ⟨e2, a2, w2, hq2, .of_steps (Steps.trans harr (.one step_inLoop)) harr2⟩
      | exit id =>
        cases e <;> simp only [XRel] at hx'
        subst hx'
        exact ⟨.exit _, a1, w1, ⟨E2, hx12, .exit _, s', M', rfl, hq, hst'⟩, .pass (x := .inLoop c) rfl (fun _ _ => .inl (by simp)) harr⟩
      | ret =>
        cases e <;> simp only [XRel] at hx'
        exact ⟨.ret, a1, w1, ⟨E2, hx12, .ret, s', M', trivial, hq, hst'⟩, .pass (x := .inLoop c) rfl (fun _ _ => .inl (by simp)) harr⟩
      | panic d =>
        cases e <;> simp only [XRel] at hx'
        exact ⟨.panic _, a1, w1, ⟨E2, hx12, .panic d, s', M', hx', hq, hst'⟩, .pass (x := .inLoop c) rfl (fun _ _ => .inl (by simp)) harr⟩
  obtain ⟨e, a', w', hq, harr⟩ := key n0 x0 hn0 E (EnvExt.refl E) M w a hs
  exact ⟨e, a', w', hq, .of_steps (.one step_loop) harr⟩
end

/-! ### what the walks say -/
abbrev zn : Hint := {}
theorem zt : True := trivial
theorem zc {p q : Prop} (hp : p) (hq : q) : p ∧ q := ⟨hp, hq⟩
theorem some_inv {α : Type} {a b : α} (h : some a = some b) : a = b := Option.some.inj h
theorem gd_tt {b : Bool} (h : b = true) : (b == true) = true := by rw [h]; rfl
theorem gd_tf {b : Bool} (h : b = true) : (b == false) = false := by rw [h]; rfl
theorem gd_ft {b : Bool} (h : b = false) : (b == true) = false := by rw [h]; rfl
theorem gd_ff {b : Bool} (h : b = false) : (b == false) = true := by rw [h]; rfl
def elI (n : Int) : D := .int .i64 n
theorem elI_one (l : List Int) : cellsOne (l.map elI) := by
  intro d hd c hc; obtain ⟨x, _, rfl⟩ := List.mem_map.1 hd; simp [elI, D.cells] at hc; subst hc; rfl
theorem len_s {α : Type} (enc : α → D) (l : List α) : True ∧ D.int .i64 (((l.map enc).length : Nat) : Int) = D.int .i64 ((l.length : Nat) : Int) := ⟨trivial, by rw [List.length_map]⟩
theorem len_z {α : Type} (enc : α → D) : True ∧ D.int .i64 (((([] : List α).map enc).length : Nat) : Int) = D.int .i64 0 := ⟨trivial, rfl⟩
theorem app_s {α : Type} (enc : α → D) (h1 : ∀ l : List α, cellsOne (l.map enc)) (old new : List α) {b : Nat} (h : (old.length + new.length) * b ≤ 140737488355328) :
    ((old.map enc).length + (new.map enc).length) * b ≤ 140737488355328 ∧ cellsOne (new.map enc) ∧ old.map enc ++ new.map enc = (old ++ new).map enc := ⟨by simpa using h, h1 _, by simp⟩
/-- A part of a list. -/
def sb {α ρ : Type} (l : List α) (lo hi : Option Int) (k : List α → Option ρ) : Option ρ :=
  if 0 ≤ lo.getD 0 ∧ lo.getD 0 ≤ hi.getD l.length ∧ hi.getD l.length ≤ (l.length : Int) then k (subList l lo hi) else none
theorem sub_side {n : Nat} {lo hi : Option Int} (h : 0 ≤ lo.getD 0 ∧ lo.getD 0 ≤ hi.getD n ∧ hi.getD n ≤ (n : Int)) : subSide n lo hi none := by
  unfold subSide
  cases lo <;> cases hi <;> simp at h ⊢ <;> omega
theorem subList_map {α β : Type} (f : α → β) (l : List α) (lo hi : Option Int) : subList (l.map f) lo hi = (subList l lo hi).map f := by
  unfold subList
  cases lo <;> cases hi <;> simp [List.map_take, List.map_drop]
theorem sb_inv {α ρ : Type} {r : ρ} (sz : Nat) (enc : α → D) {l : List α} {lo hi : Option Int} {k : List α → Option ρ} (h : sb l lo hi k = some r) :
    ∃ y, (subSide (l.map enc).length lo hi none ∧ D.sl sz (subList (l.map enc) lo hi) = D.sl sz (y.map enc)) ∧ k y = some r := by
  unfold sb at h
  split at h
  · rename_i h0
    exact ⟨_, ⟨by rw [List.length_map]; exact sub_side h0, by rw [subList_map]⟩, h⟩
  · cases h
end Go.DL

/-
  The data-level framework, third series, part b: regions that draw their order, walked by sets of operations with one computation; operations under a guard. Generic in the program; no condition.
-/
set_option linter.unusedVariables false
set_option linter.unusedSimpArgs false
namespace Go.DL
open Go.RowKit

structure AH where
  h : Hint := {}
  co : List Co := []

def lastOn {α : Type} (m key : Nat) : List (Nat × Nat × α) → Option α → Option α
  | [], acc => acc
  | (i, k, v) :: l, acc => match k == key, m.testBit i with
    | true, true => lastOn m key l (some v)
    | _, _ => lastOn m key l acc

def slM (m : Nat) (vals : List (Nat × Nat × LV)) : Nat → List LV → List LV
  | _, [] => []
  | t, l :: ls => ((lastOn m t vals none).getD l) :: slM m vals (t + 1) ls

/-- The state when the operations of the set m have run. -/
def stM (s0 : DS) (vals : List (Nat × Nat × LV)) (bxs : List (Nat × Nat × Option Box)) (ids : List Nat) (m : Nat) : DS :=
  ⟨slM m vals 0 s0.sl, ids.filterMap fun id => match lastOn m id bxs none with
    | some (some b) => some (id, b)
    | some none => none
    | none => (s0.bx.lookup id).map fun b => (id, b)⟩

def anyEnd (ids : List Nat) (s : DS) : Option DS :=
  match s.bx.all fun p => ids.contains p.1 with
  | true => some (s.order ids)
  | false => none

def anyEdge (P : Program) (base : Nat) (ops : Array Oper) (hs : List AH) (st : Nat → DS) (ids : List Nat) (e : Nat × Nat) : Option (Prop × DS) :=
  match ops[e.2]?, coAll base (hs.getD e.2 {}).co (st e.1) with
  | some o, some s1 => match wantB ops o s1 (hs.getD e.2 {}).h.g with
    | none => none
    | some (p, false) => (anyEnd ids (s1.put o.dst UD)).map fun s' => (p, s')
    | some (p, true) => match dstep P base o s1 (hs.getD e.2 {}).h.d with
      | some (r, s2) => (anyEnd ids s2).map fun s' => (p ∧ r, s')
      | none => none
  | _, _ => none

def edgesOf (ops : Array Oper) (sets : List Nat) : List (Nat × Nat) := sets.flatMap fun m => (Region.ready .any ops (bitsA ops.size m)).map fun i => (m, i)

def AllP : List Prop → Prop
  | [] => True
  | p :: l => p ∧ AllP l
theorem AllP.get : ∀ {l : List Prop}, AllP l → ∀ i, l.getD i True
  | [], _, i => by simp
  | p :: l, h, 0 => h.1
  | p :: l, h, i + 1 => by simpa using AllP.get h.2 i

section
variable {P : Program} {base : Nat} {ops : Array Oper} {Q : DX → DS → Prop} {s : DS}

theorem anyEnd_le {ids : List Nat} (hn : ids.Nodup) {s' : DS} (h : anyEnd ids s = some s') : s.Le s' := by
  unfold anyEnd at h
  split at h
  · rename_i ha
    cases h
    refine DS.le_order s ids hn fun p hp => ?_
    have := List.all_eq_true.1 ha p hp
    simpa using this
  · cases h

theorem anyEdge_sound {hs : List AH} {st : Nat → DS} {ids : List Nat} {m i : Nat} {side : Prop} {s' : DS} (hn : ids.Nodup) (h : anyEdge P base ops hs st ids (m, i) = some (side, s')) (hside : side) :
    ∃ o, ops[i]? = some o ∧ TL P base ops [o] (QE Q s') (st m) := by
  unfold anyEdge at h
  split at h
  · rename_i o s1 ho hco
    dsimp only at ho hco
    refine ⟨o, ho, TL_leB (coAll_le hco) ?_⟩
    split at h
    · cases h
    · rename_i p hw
      simp only [Option.map_eq_some_iff, Prod.mk.injEq] at h
      obtain ⟨s2, h1, h2, rfl⟩ := h
      rw [← h2] at hside
      refine dexec_sound [o] [(hs.getD i {}).h] s1 (s1.put o.dst UD) (p ∧ True) ?_ ⟨hside, trivial⟩ (anyEnd_le hn h1)
      simp only [dexec, List.headD_cons, hw]
    · rename_i p hw
      split at h
      · rename_i r s2 hd
        simp only [Option.map_eq_some_iff, Prod.mk.injEq] at h
        obtain ⟨s3, h1, h2, rfl⟩ := h
        rw [← h2] at hside
        refine dexec_sound [o] [(hs.getD i {}).h] s1 s2 (p ∧ r ∧ True) ?_ ⟨hside.1, hside.2, trivial⟩ (anyEnd_le hn h1)
        simp only [dexec, List.headD_cons, hw, hd]
      · cases h
  · cases h

theorem Edges.of {st : Nat → DS} : ∀ {l : List (Nat × Nat)}, (∀ e ∈ l, ∃ o, ops[e.2]? = some o ∧ TL P base ops [o] (QE Q (st (e.1 + 2 ^ e.2))) (st e.1)) → Edges P base ops Q st l
  | [], _ => trivial
  | (m, i) :: l, h => by
    obtain ⟨o, ho, hT⟩ := h (m, i) List.mem_cons_self
    refine ⟨?_, Edges.of fun e he => h e (List.mem_cons_of_mem _ he)⟩
    dsimp only at ho
    rw [ho]
    exact hT

theorem T_anyU {id : Nat} {l : List Oper} (hs : List AH) (sides : List Prop) (s0 : DS) (vals : List (Nat × Nat × LV)) (bxs : List (Nat × Nat × Option Box)) (ids sets : List Nat) (hm : P.follows .mixedOrders = true) (hn : decide ids.Nodup = true)
    (hok : dagOk l.toArray (edgesOf l.toArray sets) sets = true) (h0 : stM s0 vals bxs ids 0 = s)
    (hE : (edgesOf l.toArray sets).map (anyEdge P base l.toArray hs (stM s0 vals bxs ids) ids) = (edgesOf l.toArray sets).map fun e => some (sides.getD e.2 True, stM s0 vals bxs ids (e.1 + 2 ^ e.2)))
    (hside : AllP sides) (hend : Q .normal (stM s0 vals bxs ids (2 ^ l.length - 1))) : T P base (.region id l.toArray true) Q s :=
  T_any (edgesOf l.toArray sets) sets (stM s0 vals bxs ids) hm hok (DS.le_of_eq h0.symm) (Edges.of fun e he => by
    obtain ⟨m, i⟩ := e
    have := List.map_inj_left.1 hE (m, i) he
    exact anyEdge_sound (of_decide_eq_true hn) this (AllP.get hside i)) hend

theorem T_anyUS {id : Nat} {l : List Oper} {y : Code} (hs : List AH) (sides : List Prop) (s0 : DS) (vals : List (Nat × Nat × LV)) (bxs : List (Nat × Nat × Option Box)) (ids sets : List Nat) (hm : P.follows .mixedOrders = true) (hn : decide ids.Nodup = true)
    (hok : dagOk l.toArray (edgesOf l.toArray sets) sets = true) (h0 : stM s0 vals bxs ids 0 = s)
    (hE : (edgesOf l.toArray sets).map (anyEdge P base l.toArray hs (stM s0 vals bxs ids) ids) = (edgesOf l.toArray sets).map fun e => some (sides.getD e.2 True, stM s0 vals bxs ids (e.1 + 2 ^ e.2)))
    (hside : AllP sides) (hend : T P base y Q (stM s0 vals bxs ids (2 ^ l.length - 1))) : T P base (.seq (.region id l.toArray true) y) Q s :=
  T_seq (T_anyU hs sides s0 vals bxs ids sets hm hn hok h0 hE hside hend)

/-- An operation whose guard holds. -/
theorem TL_guard {o : Oper} {rest : List Oper} {p : Prop} (h : wantB ops o s true = some (p, true)) (hp : p) (hq : TL P base ops ({ o with guard := none } :: rest) Q s) : TL P base ops (o :: rest) Q s := by
  intro E M w a hE hst
  have h1 := hq E M w a hE hst
  unfold wpList at h1 ⊢
  have hw := wantB_sound h hp hst
  have hw2 : Region.wanted { o with guard := none } (yielded ops a.tmps) = true := by unfold Region.wanted; rfl
  rw [if_pos hw]
  rw [if_pos hw2] at h1
  exact h1
end
end Go.DL

/-! ### regions that end where ways meet -/
namespace Go.DL
section
variable {P : Program} {base : Nat} {Q : DX → DS → Prop} {s : DS}
def wayJ (P : Program) (base : Nat) (l : List Oper) (hs : List Hint) (cs : List Co) (live dead ids : List Nat) (s : DS) : Option (Prop × DS) :=
  match dexec P base l.toArray l hs s with
  | some (p, s1) => (arrive base cs live dead ids s1).map fun s2 => (p, s2)
  | none => none
theorem T_regJ {id : Nat} {l : List Oper} (hs : List Hint) (cs : List Co) (live dead ids : List Nat) (sv : DS) (side : Prop) (h : wayJ P base l hs cs live dead ids s = some (side, sv)) (hside : side)
    (hq : ∀ s', s'.LeB base sv → Q .normal s') : T P base (.region id l.toArray false) Q s := by
  unfold wayJ at h
  split at h
  · rename_i p s1 h1
    simp only [Option.map_eq_some_iff, Prod.mk.injEq] at h
    obtain ⟨s2, h2, h3, rfl⟩ := h
    exact T_region hs s1 p h1 (by rw [h3]; exact hside) (hq s1 (arr _ _ _ _ h2))
  · cases h
def wayJD (P : Program) (base : Nat) (l : List Oper) (n : Nat) (hs : List Hint) (cs : List Co) (live dead ids : List Nat) (s : DS) : Option (Prop × DS) :=
  match dexecDraw P base l n hs s with
  | some (p, s1) => (arrive base cs live dead ids s1).map fun s2 => (p, s2)
  | none => none
theorem T_regJD {id : Nat} {l : List Oper} (n : Nat) (hs : List Hint) (cs : List Co) (live dead ids : List Nat) (sv : DS) (side : Prop) (hm : P.follows .mixedOrders = true) (hok : drawOk l.toArray n = true) (h : wayJD P base l n hs cs live dead ids s = some (side, sv)) (hside : side)
    (hq : ∀ s', s'.LeB base sv → Q .normal s') : T P base (.region id l.toArray true) Q s := by
  unfold wayJD at h
  split at h
  · rename_i p s1 h1
    simp only [Option.map_eq_some_iff, Prod.mk.injEq] at h
    obtain ⟨s2, h2, h3, rfl⟩ := h
    exact T_draw n hs s1 p hm hok h1 (by rw [h3]; exact hside) (hq s1 (arr _ _ _ _ h2))
  · cases h
end
/-! ### short names for what is printed -/
theorem zs {p : Prop} {l : List Prop} (h : p) (hl : AllP l) : AllP (p :: l) := ⟨h, hl⟩
theorem zS : AllP [] := trivial
abbrev zg : Hint := { g := false }
abbrev zd (d : D) : Hint := { d := some d }
def hl (n : Nat) (l : List (Nat × Hint)) : List Hint := (List.range n).map fun i => (l.lookup i).getD {}
abbrev di (n : Int) : LV := .one (.dat (.int .i64 n))
abbrev db (b : Bool) : LV := .one (.dat (.bool b))
abbrev rf (i o : Nat) : LV := .one (.ref i o)
abbrev ow (i : Nat) : LV := .one (.own i)
section
variable {q : Prop}
theorem z1 (h : q) : True ∧ q := ⟨trivial, h⟩
theorem z2 (h : q) : True ∧ True ∧ q := z1 (z1 h)
theorem z3 (h : q) : True ∧ True ∧ True ∧ q := z1 (z2 h)
theorem z4 (h : q) : True ∧ True ∧ True ∧ True ∧ q := z1 (z3 h)
theorem z5 (h : q) : True ∧ True ∧ True ∧ True ∧ True ∧ q := z1 (z4 h)
theorem z6 (h : q) : True ∧ True ∧ True ∧ True ∧ True ∧ True ∧ q := z1 (z5 h)
theorem z7 (h : q) : True ∧ True ∧ True ∧ True ∧ True ∧ True ∧ True ∧ q := z1 (z6 h)
theorem z8 (h : q) : True ∧ True ∧ True ∧ True ∧ True ∧ True ∧ True ∧ True ∧ q := z1 (z7 h)
end
end Go.DL

/-! ### parts of rows -/
namespace Go.DL
def sbp {ρ : Type} (n : Nat) (lo hi : Option Int) (k : Nat → Nat → Option ρ) : Option ρ :=
  if 0 ≤ lo.getD 0 ∧ lo.getD 0 ≤ hi.getD n ∧ hi.getD n ≤ (n : Int) then k (lo.getD 0).toNat ((hi.getD n).toNat - (lo.getD 0).toNat) else none
def letO {α ρ : Type} (x : α) (k : α → Option ρ) : Option ρ := k x
section
variable {α ρ : Type} {r : ρ}
theorem letO_inv {x : α} {k : α → Option ρ} (h : letO x k = some r) : ∃ y, y = x ∧ k y = some r := ⟨x, rfl, h⟩
theorem sbp_inv {n : Nat} {lo hi : Option Int} {k : Nat → Nat → Option ρ} (h : sbp n lo hi k = some r) :
    ∃ a m, (subSide n lo hi none ∧ lo.getD 0 = ((a : Nat) : Int) ∧ hi.getD (n : Int) = ((a + m : Nat) : Int)) ∧ k a m = some r := by
  unfold sbp at h
  split at h
  · rename_i h0; exact ⟨_, _, ⟨sub_side h0, by omega, by omega⟩, h⟩
  · cases h
theorem sbo_inv (enc : α → D) {l : List α} {lo hi : Option Int} {k : Nat → Nat → Option ρ} (h : sbp l.length lo hi k = some r) :
    ∃ a m, (subSide (l.map enc).length lo hi none ∧ lo.getD 0 = ((a : Nat) : Int) ∧ hi.getD ((l.map enc).length : Int) = ((a + m : Nat) : Int)) ∧ k a m = some r := by
  rw [List.length_map]; exact sbp_inv h
theorem cps_so (enc : α → D) (h1 : ∀ l : List α, cellsOne (l.map enc)) (l src : List α) {m : Nat} (h : 0 + l.length ≤ l.length) (hm : m = Nat.min src.length l.length) :
    True ∧ 0 + (l.map enc).length ≤ (l.map enc).length ∧ m = Nat.min (src.map enc).length (l.map enc).length ∧ cellsOne (src.map enc) ∧ (l.map enc).take 0 ++ (src.map enc).take m ++ (l.map enc).drop (0 + m) = (l.take 0 ++ src.take m ++ l.drop (0 + m)).map enc :=
  ⟨trivial, by rw [List.length_map]; exact h, by rw [List.length_map, List.length_map]; exact hm, h1 _, by simp⟩
theorem cpp_s (enc : α → D) (h1 : ∀ l : List α, cellsOne (l.map enc)) (l l2 : List α) {lo n m lo2 n2 : Nat} (h : lo + n ≤ l.length) (h2 : lo2 + n2 ≤ l2.length) (hm : m = Nat.min ((l2.drop lo2).take n2).length n) :
    lo2 + n2 ≤ (l2.map enc).length ∧ lo + n ≤ (l.map enc).length ∧ m = Nat.min (((l2.map enc).drop lo2).take n2).length n ∧ cellsOne (((l2.map enc).drop lo2).take n2) ∧
      (l.map enc).take lo ++ (((l2.map enc).drop lo2).take n2).take m ++ (l.map enc).drop (lo + m) = (l.take lo ++ ((l2.drop lo2).take n2).take m ++ l.drop (lo + m)).map enc := by
  refine ⟨by rw [List.length_map]; exact h2, by rw [List.length_map]; exact h, ?_, ?_, by simp [List.map_take, List.map_drop]⟩
  · rw [← List.map_drop, ← List.map_take, List.length_map]; exact hm
  · rw [← List.map_drop, ← List.map_take]; exact h1 _
theorem clr_s (enc : α → D) (l : List α) (z : α) {lo n : Nat} (h : lo + n ≤ l.length) :
    lo + n ≤ (l.map enc).length ∧ (l.map enc).take lo ++ List.replicate n (enc z) ++ (l.map enc).drop (lo + n) = (l.take lo ++ List.replicate n z ++ l.drop (lo + n)).map enc :=
  ⟨by rw [List.length_map]; exact h, by simp⟩
end
end Go.DL

/-
  The data-level framework, third series, part c: the sorted keys of a set of the call's own. Generic in the program; no condition.
-/
set_option linter.unusedVariables false
set_option linter.unusedSimpArgs false
namespace Go.DL
open Go.RowKit Go.Maps
def KeysOKS (P : Program) (f g : FuncId) (k e et : TypeId) : Prop :=
  Callable P f ∧ Callable P g ∧ ∀ (w : World) (b n : Nat) (l : List Int), w.ownsMap P k (plainElem P e) b n (mapS l) → n < 17592186044416 →
    Calls P f #[.map (some b)] w fun x1 w1 => ∃ v1, x1 = .returned v1 ∧ Below w.heap.size w w1 ∧
      Calls P g #[v1] w1 fun x2 w2 => ∃ (v2 : Value) (ss : List Int), x2 = .returned v2 ∧ Below w.heap.size w w2 ∧ ss.Perm (intKeys (mapS l)) ∧ w2.ownsRow w.heap.size et 1 v2 ss.length ((ss.mergeSort fun x y => decide (x ≤ y)).map encZ)
section
variable {P : Program} {w : World} {A : Nat → Prop} {M : BMap} {base : Nat} {Q : DX → DS → Prop} {s : DS}
theorem intKeys_mapS (l : List Int) : intKeys (mapS l) = l := by
  simp [intKeys, mapS, intOf, Function.comp_def]
theorem flat_ints (l : List Int) : flat (l.map fun x => D.int .i64 x) = l.map fun x => D.int .i64 x := by
  induction l with
  | nil => rfl
  | cons x r ih => rw [List.map_cons, flat_cons, ih]; rfl

theorem TL_keysS {ops : Array Oper} {o1 o2 : Oper} {rest : List Oper} (f g : FuncId) (k e et : TypeId) (hok : KeysOKS P f g k e et) {f1 g1 m : Operand} {ts1 ts2 : Array TypeId} (d1 d2 id mid : Nat)
    (ho1 : o1.op = .call { callee := .value f1, args := #[m], argTypes := ts1 }) (hg1 : o1.guard = none) (hf1 : s.ev f1 = .one (.fn f [])) (hd1 : o1.dst = some d1)
    (ho2 : o2.op = .call { callee := .value g1, args := #[.tmp d1], argTypes := ts2 }) (hg2 : o2.guard = none) (hf2 : (s.put (some d1) (.one .junk)).ev g1 = .one (.fn g [])) (hd2 : o2.dst = some d2) (hlt : Nat.blt d1 s.sl.length = true)
    (hm : s.ev m = .one (.own mid)) (l : List Int) (hl : s.bx.lookup mid = some (.map P k e (mapS l))) (hs : l.Pairwise (· < ·)) (hn : l.length < 17592186044416) (hb : Nat.ble base id = true)
    (h : TL P base ops rest Q ((((s.put (some d1) (.one .junk)).drop id).push id (.row et 1 (l.map fun x => .int .i64 x))).put (some d2) (.one (.own id)))) : TL P base ops (o1 :: o2 :: rest) Q s := by
  intro E M w a hE hst
  refine wpList_plain hg1 fun K hK => ?_
  have hslots := ev_rel hst.size hst.slots
  have hfr := hslots f1
  rw [hf1] at hfr
  obtain ⟨cv, hfv, hcs, _⟩ := hfr
  have hcv0 : cv = #[] := Array.eq_empty_of_size_eq_zero (by simpa using hcs)
  subst hcv0
  unfold Oper.wp
  rw [run_call_func ho1 hfv hok.1, Oper.upon_enter]
  have rm := hslots m
  rw [hm] at rm
  simp only [LV.rel, C.rel] at rm
  obtain ⟨e1, n, e2⟩ := hst.boxes.ok mid _ (lookup_mem hl)
  have hargs : (#[m] : Array Operand).map a.eval ++ #[] = #[.map (some (M.blk mid))] := by simp [rm, e1]
  rw [hargs]
  refine (hok.2.2 w (M.blk mid) l.length l (ownsMapS_size e2) hn).mono ?_
  rintro x1 w1 ⟨v1, rfl, hb1, hcall⟩
  refine hK _ _ ?_
  rw [hd1]
  have hst1 : St E M w1 (a.put (some d1) v1) (s.put (some d1) (.one .junk)) := (hst.below hb1).put (some d1) (l := .one .junk) trivial
  refine wpList_plain hg2 fun K2 hK2 => ?_
  have hgr := ev_rel hst1.size hst1.slots g1
  rw [hf2] at hgr
  obtain ⟨cg, hgv, hcg, _⟩ := hgr
  have hcg0 : cg = #[] := Array.eq_empty_of_size_eq_zero (by simpa using hcg)
  subst hcg0
  unfold Oper.wp
  rw [run_call_func ho2 hgv hok.2.1, Oper.upon_enter]
  have hlt' : d1 < a.tmps.size := by rw [hst.size]; simpa [Nat.blt_eq] using hlt
  have hargs2 : (#[.tmp d1] : Array Operand).map (a.put (some d1) v1).eval ++ #[] = #[v1] := by simp [Act.eval, Act.put, hlt']
  rw [hargs2]
  refine hcall.mono ?_
  rintro x2 w2 ⟨v2, ss, rfl, hb2, hp, hrow⟩
  refine hK2 _ _ ?_
  rw [hd2]
  have hss : (ss.mergeSort fun x y => decide (x ≤ y)) = l := mergeSort_keys (by rw [intKeys_mapS] at hp; exact hp) hs
  have hlen : ss.length = l.length := by have := hp.length_eq; rw [intKeys_mapS] at this; simpa using this
  rw [hss, hlen] at hrow
  have hst2 : St E M w (a.put (some d1) v1) (s.put (some d1) (.one .junk)) := hst.put (some d1) (l := .one .junk) trivial
  refine h E (M.upd id (v2.ownBlock.getD 0) v2 1) w2 _ hE (St.put ?_ (some d2) (by simp [LV.rel, C.rel, BMap.upd]))
  refine StA.push (hst2.toA.drop id (v2.ownBlock.getD 0) v2 1) drop_free (by rw [hE]; exact Nat.le_of_ble_eq_true hb) (row := none) ⟨hb2.os, hb2.tape, hb2.output, hb2.size, fun i hi _ => hb2.block i hi⟩ (fun k hk => by cases hk) (fun b hb => Av_drop hb) (fun k hk => ?_) fun A' _ => ?_
  · simp only [boxBlk, BMap.upd, if_true] at hk
    rcases hrow.2 with ⟨rfl, _⟩ | ⟨g0, cap, cur, rfl, hbase, hg0, _⟩
    · simp [Value.ownBlock] at hk
    · simp only [Value.ownBlock, Option.some.injEq] at hk
      subst hk
      exact ⟨.inr hbase, (Array.getElem?_eq_some_iff.1 hg0).1⟩
  · have hfl : flat (l.map fun x => D.int .i64 x) = l.map fun x => D.int .i64 x := flat_ints l
    refine ⟨l.map encZ, ?_, fun d hd => ?_, by simp [BMap.upd], fun j c hj => ?_, fun k hk => ?_⟩
    · have := hrow
      refine ⟨by simp, ?_⟩
      rcases hrow.2 with ⟨hv, h0⟩ | ⟨g0, cap, cur, hv, _, r⟩
      · exact .inl ⟨by simp [BMap.upd, hv], by simpa using h0⟩
      · refine .inr ⟨g0, cap, cur, by simp [BMap.upd, hv], Nat.zero_le _, ?_⟩
        simpa using r
    · obtain ⟨x, _, rfl⟩ := List.mem_map.1 hd; rfl
    · rw [hfl, List.getElem?_map, Option.map_eq_some_iff] at hj
      obtain ⟨x, hx, rfl⟩ := hj
      exact ⟨encZ x, by rw [List.getElem?_map, hx]; rfl, .int _ _⟩
    · simp only [BMap.upd, if_true] at hk ⊢
      rw [hk]; rfl

end
end Go.DL
