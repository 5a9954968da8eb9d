/-
  The data-level framework, part m: regions in the order of the text, at the data level. Generic in the program; no condition.
-/
import Derived.Test.YtpkbecaailhhmaaDLl
set_option linter.unusedVariables false
set_option linter.unusedSimpArgs false
namespace Go.DL
open Go.RowKit
section
variable {P : Program} {w : World} {A : Nat → Prop} {M : BMap}

/-- What a step of the state shows of an operation. -/
def EStep (P : Program) (o : Oper) (E : Env) (w : World) (a : Act) (s' : DS) : Prop :=
  ∀ (K : Act → World → Prop) (Q : Exit → Act → World → Prop), (∀ v w' M', St E M' w' (a.put o.dst v) s' → K (a.put o.dst v) w') → o.wp P a w K Q

theorem EStep.of_run {E : Env} {a : Act} {o : Oper} {s' : DS} {v : Value} {w' : World} {M' : BMap} (hr : (execOp a.eval o).run P w = .ok (.value v) w') (h : St E M' w' (a.put o.dst v) s') : EStep P o E w a s' := by
  intro K Q hK
  unfold Oper.wp
  rw [hr, Oper.upon_value]
  exact hK v w' M' h

theorem var_box {E : Env} {a : Act} {s : DS} (h : St E M w a s) {id : Nat} (hbase : E.base ≤ id) {arr : Array Value} {T : TypeId} {cs : List C}
    (hc : ∀ A', Keeps w (Av E.A0 M s.bx) (w.alloc (.cells arr T)) A' → cellsRel (w.alloc (.cells arr T)) A' (M.upd id w.heap.size undef 0) cs arr) :
    St E (M.upd id w.heap.size undef 0) (w.alloc (.cells arr T)) a ((s.drop id).push id (.var cs)) := by
  refine h.alloc id hbase arr T (.var cs) undef 0 (fun k hk => by simpa [boxBlk, BMap.upd] using hk.symm) fun A' hA' => ?_
  exact ⟨arr, T, by simp only [BMap.upd, if_true]; exact heap_alloc_new w _, hc A' hA'⟩

theorem row_box {E : Env} {a : Act} {s : DS} (h : St E M w a s) {id : Nat} (hbase : E.base ≤ id) {arr : Array Value} {e : TypeId} {sz n cap : Nat} {es : List D} (hsz : arr.size = cap * sz) (hn : es.length = n) (hcap : n ≤ cap) (hmax : cap ≤ maxLen) (hu : ∀ d ∈ es, d.cells.length = sz)
    (hc : ∀ A', Keeps w (Av E.A0 M s.bx) (w.alloc (.cells arr e)) A' → ∀ (j : Nat) (c : D), (flat es)[j]? = some c → ∃ v, arr[j]? = some v ∧ RelD (w.alloc (.cells arr e)) A' c v) :
    St E (M.upd id w.heap.size (.slice (some ⟨w.heap.size, 0, none⟩) n cap) sz) (w.alloc (.cells arr e)) a ((s.drop id).push id (.row e sz es)) := by
  refine h.alloc id hbase arr e (.row e sz es) _ sz (fun k hk => by simpa [boxBlk, BMap.upd, Value.ownBlock] using hk.symm) fun A' hA' => ?_
  subst hn
  have hle : es.length * sz ≤ cap * sz := Nat.mul_le_mul_right _ hcap
  refine ⟨arr.toList.take (es.length * sz), ⟨by simp [hsz, Nat.min_eq_left hcap], .inr ⟨w.heap.size, cap, arr, by simp [BMap.upd], Nat.zero_le _, heap_alloc_new w _, hcap, hmax, hsz, rfl⟩⟩, hu, by simp [BMap.upd], fun j c hj => ?_, ?_⟩
  · obtain ⟨v, hv, hr⟩ := hc A' hA' j c hj
    have hlt := (List.getElem?_eq_some_iff.1 hj).1
    rw [flat_length es hu] at hlt
    exact ⟨v, by rw [List.getElem?_take, if_pos hlt]; simpa using hv, hr⟩
  · intro k hk
    simp only [BMap.upd, if_true, Value.ownBlock, Option.some.injEq] at hk ⊢
    exact hk.symm

theorem scrub_const (id : Nat) (v : Value) : (ofConstCell v).scrub id = ofConstCell v := by
  cases v <;> rfl

theorem zeroD_spec {e : TypeId} {d : D} (h : zeroD P e = some d) : ∃ i z, P.info? e = some i ∧ i.zero = some z ∧ z.cells.size = i.size ∧ d.cells.length = i.size ∧ ∀ (j : Nat) (c : D), d.cells[j]? = some c → ∃ u, z.cells[j]? = some u ∧ RelD w A c u := by
  unfold zeroD at h
  split at h
  · rename_i i hi
    split at h
    · rename_i z hz
      split at h
      · rename_i ds dd hsz hds hu
        have hsz' : i.size = z.cells.size := by simpa using hsz
        have hmap := allDat_map _ _ hds
        have hlen : ds.length = z.cells.size := by
          have := congrArg List.length hmap
          simpa using this.symm
        have hrel : ∀ (j : Nat) (c : D), ds[j]? = some c → ∃ u, z.cells[j]? = some u ∧ RelD w A c u := by
          intro j c hj
          have h1 : (z.cells.toList.map ofConstCell)[j]? = some (.dat c) := by rw [hmap, List.getElem?_map, hj]; rfl
          simp only [List.getElem?_map, Option.map_eq_some_iff] at h1
          obtain ⟨u, hu, hc⟩ := h1
          refine ⟨u, by simpa using hu, ?_⟩
          have := ofConstCell_rel (w := w) (A := A) (M := ⟨fun _ => 0, fun _ => undef, fun _ => 0⟩) u
          rw [hc] at this
          exact this
        split at h
        · cases h
          exact ⟨i, z, hi, hz, hsz'.symm, by simp [D.cells, hlen, hsz'], hrel⟩
        · split at h
          · rename_i x
            split at h
            · rename_i hx
              cases h
              have hxc : d.cells = [d] := by cases d <;> first | rfl | (simp [D.one] at hx)
              refine ⟨i, z, hi, hz, hsz'.symm, by rw [hxc, hsz', ← hlen], ?_⟩
              rw [hxc]
              exact hrel
            · cases h
          · cases h
      · cases h
    · cases h
  · cases h

theorem flat_replicate (n : Nat) (d : D) : flat (List.replicate n d) = (List.replicate n d.cells).flatten := by simp [flat, List.flatMap_def]

theorem flat_rep_get {d : D} {sz : Nat} (hd : d.cells.length = sz) : ∀ (n j : Nat) (c : D), (flat (List.replicate n d))[j]? = some c → j < n * sz ∧ d.cells[j % sz]? = some c
  | 0, j, c, h => by simp [flat] at h
  | n + 1, j, c, h => by
    rw [List.replicate_succ, flat_cons, List.getElem?_append, hd] at h
    split at h
    · rename_i hlt
      rw [Nat.mod_eq_of_lt hlt]
      exact ⟨by rw [Nat.add_mul]; omega, h⟩
    · rename_i hge
      have hge' : sz ≤ j := Nat.le_of_not_lt hge
      obtain ⟨h1, h2⟩ := flat_rep_get hd n (j - sz) c h
      refine ⟨by rw [Nat.add_mul]; omega, ?_⟩
      rw [Nat.mod_eq_sub_mod hge']
      exact h2

theorem estep_sound {E : Env} {a : Act} {s s' : DS} {o : Oper} {h : Option D} {side : Prop} {base : Nat} (he : estep P base o s h = some (side, s')) (hs : side) (hst : St E M w a s) (hb : E.base = base) : EStep P o E w a s' := by
  unfold estep at he
  split at he
  · rename_i t d hop hd
    split at he
    · rename_i cs hz
      simp only [Option.some.injEq, Prod.mk.injEq] at he
      obtain ⟨_, rfl⟩ := he
      obtain ⟨i, z, hi, hzv, _⟩ := zeroC_rel (w := w) (A := fun _ => True) (M := M) hz
      have hr : (execOp a.eval o).run P w = .ok (.value (.pointer (some ⟨w.heap.size, 0, none⟩))) (w.alloc (.cells z.cells t)) := by
        simp [execOp, hop, Instr.alloc, zeroValue, typeInfo, hi, hzv, newVar, newRow]
      refine EStep.of_run (M' := M.upd (base + d) w.heap.size undef 0) hr ?_
      rw [hd]
      refine St.put ?_ (some d) (by simp [LV.rel, C.rel, BMap.upd])
      refine var_box hst (by omega) fun A' hA' => ?_
      obtain ⟨i2, z2, hi2, hzv2, hcr⟩ := zeroC_rel (w := w.alloc (.cells z.cells t)) (A := A') (M := M.upd (base + d) w.heap.size undef 0) hz
      rw [hi] at hi2
      cases hi2
      rw [hzv] at hzv2
      cases hzv2
      exact hcr
    · cases he
  · rename_i t x d hop hd
    split at he
    · rename_i cs hcs
      simp only [Option.some.injEq, Prod.mk.injEq] at he
      obtain ⟨_, rfl⟩ := he
      have hx := ev_rel hst.size hst.slots x
      have hc := LV.cs_rel hst.boxes.ok hcs hx
      have hr : (execOp a.eval o).run P w = .ok (.value (.pointer (some ⟨w.heap.size, 0, none⟩))) (w.alloc (.cells (a.eval x).cells t)) := by
        simp [execOp, hop, Instr.box, newVar, newRow]
      refine EStep.of_run (M' := M.upd (base + d) w.heap.size undef 0) hr ?_
      rw [hd]
      refine St.put ?_ (some d) (by simp [LV.rel, C.rel, BMap.upd])
      exact var_box hst (by omega) fun A' hA' => cells_scrub (hc.mono hA')
    · cases he
  · rename_i t x y hop hd
    exact eStore_sound hop hd he hs hst
  · rename_i t len parts d hop hd
    simp only [Option.map_eq_some_iff, Prod.mk.injEq] at he
    obtain ⟨⟨side', e, sz, ds⟩, h1, h2, rfl⟩ := he
    simp only at h2
    rw [← h2] at hs
    have hslots := ev_rel hst.size hst.slots
    obtain ⟨arr, h3, h4, h5, h6, h8, _, _, h7⟩ := sliceLit_sound (P := P) (A := Av E.A0 M s.bx) (M := M) hst.boxes.ok h1 hs (parts.map fun p => (p.1, a.eval p.2)) (by simp) (by
      intro j p hj
      simp only [List.getElem?_map, Option.map_eq_some_iff, Array.getElem?_toList] at hj
      obtain ⟨q, hq, rfl⟩ := hj
      exact ⟨a.eval q.2, by simp [hq], hslots q.2⟩)
    have hr : (execOp a.eval o).run P w = .ok (.value (.slice (some ⟨w.heap.size, 0, none⟩) len len)) (w.alloc (.cells arr e)) := by
      simp [execOp, hop, h3]
    have hlen : len ≤ maxLen := by simp only [maxLen]; omega
    refine EStep.of_run (M' := M.upd (base + d) w.heap.size (.slice (some ⟨w.heap.size, 0, none⟩) len len) sz) hr ?_
    rw [hd]
    refine St.put ?_ (some d) (by simp [LV.rel, C.rel, BMap.upd])
    exact row_box hst (by omega) h4 h5 (Nat.le_refl _) hlen h6 fun A' hA' j c hj => let ⟨v, hv, hr⟩ := h7 j c hj; ⟨v, hv, hr.mono hA'⟩
  · rename_i t l c d hop hd
    unfold eMake at he
    split at he
    · rename_i e kl n kc m hu hl hc
      split at he
      · rename_i ie z hie hz
        simp only [Option.some.injEq, Prod.mk.injEq] at he
        obtain ⟨h1, rfl⟩ := he
        rw [← h1] at hs
        obtain ⟨hn0, hnm, hbytes, hm⟩ := hs
        obtain ⟨i, zv, hi, hzv, hzs, hzl, _⟩ := zeroD_spec (w := w) (A := fun _ => True) hz
        rw [hie] at hi
        cases hi
        have hle := ev_rel hst.size hst.slots l
        have hce := ev_rel hst.size hst.slots c
        rw [hl] at hle
        rw [hc] at hce
        simp only [LV.rel, C.rel] at hle hce
        have e1 := relD_int hle
        have e2 := relD_int hce
        have hr0 := run_make (P := P) w t e ie zv hu hie hzv kl kc n m hn0 hnm (by omega) (by omega)
        have hr : (execOp a.eval o).run P w = .ok (.value (.slice (some ⟨w.heap.size, 0, none⟩) n.toNat m.toNat)) (w.alloc (.cells (madeCells zv.cells (m.toNat * ie.size)) e)) := by
          simp [execOp, hop, e1, e2, hr0]
        refine EStep.of_run (M' := M.upd (base + d) w.heap.size (.slice (some ⟨w.heap.size, 0, none⟩) n.toNat m.toNat) ie.size) hr ?_
        rw [hd]
        refine St.put ?_ (some d) (by simp [LV.rel, C.rel, BMap.upd])
        refine row_box hst (by omega) (size_madeCells _ _) (by simp) (by omega) (by simp only [maxLen]; omega) (fun d' hd' => by rw [List.eq_of_mem_replicate hd']; exact hzl) fun A' hA' j c hj => ?_
        obtain ⟨i2, zv2, hi2, hzv2, _, _, hrel⟩ := zeroD_spec (w := w.alloc (.cells (madeCells zv.cells (m.toNat * ie.size)) e)) (A := A') hz
        rw [hie] at hi2
        cases hi2
        rw [hzv] at hzv2
        cases hzv2
        obtain ⟨hjlt, hjc⟩ := flat_rep_get hzl _ _ _ hj
        obtain ⟨u, hu', hr'⟩ := hrel _ c hjc
        refine ⟨u, ?_, hr'⟩
        have hjm : j < m.toNat * ie.size := Nat.lt_of_lt_of_le hjlt (Nat.mul_le_mul_right _ (by omega))
        rw [← hzs] at hu'
        have hlt := (Array.getElem?_eq_some_iff.1 hu').1
        have hget : zv.cells[j % zv.cells.size]! = u := by
          rw [getElem!_pos zv.cells _ hlt]
          exact (Array.getElem?_eq_some_iff.1 hu').2
        simp only [madeCells, Array.getElem?_map, Array.getElem?_range, if_pos hjm, Option.map_some, hget]
      · cases he
    · cases he
  · rename_i c d hop hd
    split at he
    · rename_i x y t t' hcal hargs hts
      obtain ⟨callee, args, ts⟩ := c
      have e1 : args = #[x, y] := by rw [← Array.toList_inj]; exact hargs
      have e2 : ts = #[t, t'] := by rw [← Array.toList_inj]; exact hts
      simp only at hcal
      subst e1 e2 hcal
      exact eAppend_sound hop hd he hs hst (by omega)
    · cases he
  · cases he

theorem dstep_sound {E : Env} {a : Act} {s s' : DS} {o : Oper} {h : Option D} {side : Prop} {base : Nat} (he : dstep P base o s h = some (side, s')) (hs : side) (hst : St E M w a s) (hb : E.base = base) : EStep P o E w a s' := by
  unfold dstep at he
  split at he
  · rename_i r hr
    cases he
    exact estep_sound hr hs hst hb
  · simp only [Option.map_eq_some_iff, Prod.mk.injEq] at he
    obtain ⟨⟨sd, lv⟩, hp, h1, rfl⟩ := he
    simp only at h1
    rw [← h1] at hs
    have := pval_sound (P := P) hp hs hst.boxes (fun x _ => ev_rel hst.size hst.slots x)
    intro K Q hK
    exact this K Q fun v w' hbel hl => hK v w' M ((hst.below hbel).put o.dst hl)

theorem ud_rel : LV.rel w A M UD undef := RelD.tup [] #[] rfl (fun _ => undef) (fun j c h => by simp at h) (fun j c h => by simp at h)

theorem wantB_sound {E : Env} {a : Act} {s : DS} {ops : Array Oper} {o : Oper} {g b : Bool} {p : Prop} (h : wantB ops o s g = some (p, b)) (hp : p) (hst : St E M w a s) : Region.wanted o (yielded ops a.tmps) = b := by
  unfold wantB at h
  unfold Region.wanted
  split at h
  · rename_i hg
    cases h
    rw [hg]
  · rename_i j want hg
    rw [hg]
    split at h
    · rename_i t ht
      split at h
      · rename_i bb hsl
        simp only [Option.some.injEq, Prod.mk.injEq] at h
        obtain ⟨h1, rfl⟩ := h
        rw [← h1] at hp
        have hr := hst.slots t _ hsl
        simp only [LV.rel, C.rel] at hr
        have hv := relD_bool hr
        have hlt : t < a.tmps.size := by rw [hst.size]; exact (List.getElem?_eq_some_iff.1 hsl).1
        have hy : yielded ops a.tmps j = some bb := by
          unfold yielded
          rw [ht]
          simp only [Option.bind_some]
          rw [Array.getElem?_eq_getElem hlt]
          simp only [Array.getD_eq_getD_getElem?, Array.getElem?_eq_getElem hlt, Option.getD_some] at hv
          rw [hv]
        simp only [hy]
        rw [← hp]
        cases bb <;> cases want <;> rfl
      · rename_i hsl
        simp only [Option.some.injEq, Prod.mk.injEq] at h
        obtain ⟨_, rfl⟩ := h
        have hr := hst.slots t _ hsl
        simp only [LV.rel, C.rel] at hr
        have hlt : t < a.tmps.size := by rw [hst.size]; exact (List.getElem?_eq_some_iff.1 hsl).1
        have hy : yielded ops a.tmps j = none := by
          unfold yielded
          rw [ht]
          simp only [Option.bind_some]
          rw [Array.getElem?_eq_getElem hlt]
          simp only [Array.getD_eq_getD_getElem?, Array.getElem?_eq_getElem hlt, Option.getD_some] at hr
          generalize a.tmps[t] = v at hr
          cases hr
          rfl
        simp only [hy]
        rfl
      · cases h
    · cases h

/-- THE OPERATIONS OF A REGION, IN THE ORDER OF THE TEXT. -/
theorem dexec_sound {base : Nat} {ops : Array Oper} {Q : DX → DS → Prop} : ∀ (l : List Oper) (hs : List Hint) (s s' : DS) (side : Prop), dexec P base ops l hs s = some (side, s') → side → Q .normal s' → TL P base ops l Q s
  | [], hs, s, s', side, h, _, hq => by
    simp only [dexec, Option.some.injEq, Prod.mk.injEq] at h
    obtain ⟨_, rfl⟩ := h
    intro E M w a _ hst
    exact wpList_nil ⟨.normal, s, M, trivial, hq, hst⟩
  | o :: os, hs, s, s', side, h, hside, hq => by
    unfold dexec at h
    split at h
    · cases h
    · rename_i p hw
      split at h
      · rename_i q s2 h2
        simp only [Option.some.injEq, Prod.mk.injEq] at h
        obtain ⟨h1, rfl⟩ := h
        rw [← h1] at hside
        intro E M w a hb hst
        refine wpList_step fun K hK => ?_
        rw [wantB_sound hw hside.1 hst]
        simp only [Bool.false_eq_true, if_false]
        exact hK _ _ (dexec_sound os _ _ _ q h2 hside.2 hq E M w _ hb (hst.put o.dst (l := UD) ud_rel))
      · cases h
    · rename_i p hw
      split at h
      · cases h
      · rename_i r s1 h3
        split at h
        · rename_i q s2 h2
          simp only [Option.some.injEq, Prod.mk.injEq] at h
          obtain ⟨h1, rfl⟩ := h
          rw [← h1] at hside
          intro E M w a hb hst
          refine wpList_step fun K hK => ?_
          rw [wantB_sound hw hside.1 hst]
          simp only [if_true]
          exact dstep_sound h3 hside.2.1 hst hb K _ fun v w' M' hst' => hK _ _ (dexec_sound os _ _ _ q h2 hside.2.2 hq E M' w' _ hb hst')
        · cases h

/-- A region that does not draw. -/
theorem T_region {base id : Nat} {l : List Oper} {Q : DX → DS → Prop} {s : DS} (hs : List Hint) (s' : DS) (side : Prop) (h : dexec P base l.toArray l hs s = some (side, s')) (hside : side) (hq : Q .normal s') : T P base (.region id l.toArray false) Q s :=
  fun E M w a hb hst => wp_region_lit (dexec_sound l hs s s' side h hside hq E M w a hb hst)

theorem T_cond {base : Nat} {c : Operand} {x y : Code} {Q : DX → DS → Prop} {s : DS} (b : Bool) (hc : s.ev c = .one (.dat (.bool b))) (h1 : b = true → T P base x Q s) (h2 : b = false → T P base y Q s) : T P base (.cond c x y) Q s := by
  intro E M w a hb hst
  have hr := ev_rel hst.size hst.slots c
  rw [hc] at hr
  simp only [LV.rel, C.rel] at hr
  exact wp_cond_split (relD_bool hr) (fun h => h1 h E M w a hb hst) (fun h => h2 h E M w a hb hst)
end
end Go.DL
