/-
  Texts that belong together, one behind the other; what each of them proves, and under which conditions, its own heading says.
-/
import Derived.Maps.OwnSet
import Derived.Maps.RangeWalk
import Derived.Test.YtoiiblkncbnlaaaRows
import Derived.RangeFuncNested
import Derived.RangeFuncBound
import Derived.RangeFuncCalls
import Derived.RangeFuncLeaves
import Derived.Shelf.Abstract
import Derived.Shelf.RegionOpen
import Derived.WalkKit
import Derived.OwnWalkIn
import Derived.TacticsInMore
import Derived.LoopNIn
import Derived.LoopIn
import Derived.Shelf.SlSortCmp.WholeK
import Derived.Shelf.SlicesG.Cmp
import Derived.Shelf.SlIterI.Sorted
import Derived.Shelf.SlIterI.Keys
import Derived.Shelf.SortM.Plain
import Derived.Shelf.SortM.SortNone
import Derived.Ground.SlsfProg
import Derived.Ground.SlgcProg
import Derived.Ground.GgzProg
import Derived.Ground.SlgmProg
import Derived.Test.YtoiiblkncbnlaaaProg
import Derived.Shelf.RegionOpenPlain
import Derived.OpenShut
import Derived.StillTailTactics
import Derived.Shelf.Bits.Mul64
import Derived.Ground.NamesProg
import Derived.Test.YtoiiblkncbnlaaaMb
/-
  The data-level framework, third series, part d: rows of rows: a row of the call's own whose last element is a row of the call's own. Generic in the program; no condition.
-/
set_option linter.unusedVariables false
set_option linter.unusedSimpArgs false
namespace Go.DL
open Go.RowKit
section
variable {P : Program} {w : World} {A : Nat → Prop} {M : BMap} {base : Nat} {Q : DX → DS → Prop} {s : DS}

theorem TL_nest1 {ops : Array Oper} {o : Oper} {rest : List Oper} (t e : TypeId) (d id r : Nat) {x : Operand} (e2 : TypeId) (sz2 : Nat) (es2 : List D) (hop : o.op = .buildSlice t 1 #[(0, x)]) (hd : o.dst = some d) (hg : o.guard = none) (hu : P.underlying t = some (.slice e))
    (hi : (P.info? e).map (fun i => (i.size, i.zero.map (·.cells.size))) = some (1, some 1)) (hx : s.ev x = .one (.own r)) (hl : s.bx.lookup r = some (.row e2 sz2 es2)) (hne : (r == id) = false) (hb : Nat.ble base id = true)
    (h : TL P base ops rest Q (((s.drop id).push id (.nest e [] (.own r))).put (some d) (.one (.own id)))) : TL P base ops (o :: rest) Q s := by
  refine TL_estep hg _ (fun E M w a hE hst => ?_) h
  have rx := ev_rel hst.size hst.slots x
  rw [hx] at rx
  simp only [LV.rel, C.rel] at rx
  obtain ⟨ie, hie, he⟩ := Option.map_eq_some_iff.1 hi
  simp only [Prod.mk.injEq] at he
  obtain ⟨hsz, hz⟩ := he
  obtain ⟨z, hz, hzs⟩ := Option.map_eq_some_iff.1 hz
  have hone : (M.rv r).cells = #[M.rv r] := by
    obtain ⟨a', n', c', hv⟩ := rv_slice (hst.boxes.ok r _ (lookup_mem hl))
    rw [hv]; rfl
  have hrun : (Instr.buildSlice t 1 #[(0, M.rv r)]).run P w = .ok (.slice (some ⟨w.heap.size, 0, none⟩) 1 1) (w.alloc (.cells #[M.rv r] e)) := by
    refine run_buildSlice w t e 1 _ _ ie z hu hie hz (by omega) (by omega) ?_
    simp only [hsz, Nat.mul_one, Instr.fill]
    simp [hone, hzs]
    apply Array.ext
    · simp
    · intro i h1 h2
      have h0 : i = 0 := by simp at h2; omega
      subst h0
      simp
  have hr : (execOp a.eval o).run P w = .ok (.value (.slice (some ⟨w.heap.size, 0, none⟩) 1 1)) (w.alloc (.cells #[M.rv r] e)) := by
    simp [execOp, hop, rx, hrun]
  refine EStep.of_run (M' := M.upd id w.heap.size (.slice (some ⟨w.heap.size, 0, none⟩) 1 1) 1) hr ?_
  rw [hd]
  refine St.put ?_ (some d) (by simp [LV.rel, C.rel, BMap.upd])
  refine hst.alloc id (by rw [hE]; exact Nat.le_of_ble_eq_true hb) #[M.rv r] e (.nest e [] (.own r)) _ 1 (fun k hk => by simpa [boxBlk, BMap.upd, Value.ownBlock] using hk.symm) fun A' hA' => ?_
  have hne' : r ≠ id := by simpa using hne
  refine ⟨[], M.rv r, ⟨by simp, .inr ⟨w.heap.size, 1, #[M.rv r], by simp [BMap.upd], Nat.zero_le _, heap_alloc_new w _, by simp, by simp only [maxLen]; omega, by simp, by simp⟩⟩, by simp, by simp [BMap.upd], fun j c hj => by simp [flat] at hj, by simp [C.rel, BMap.upd, hne'], by simp [BMap.upd, Value.ownBlock]⟩

/-- What an append of a row of one row makes. -/
def scrubOpt (i : Option Nat) (c : C) : C := match i with | some i => c.scrub i | none => c

theorem St.renest {E : Env} {a : Act} {s : DS} (h : St E M w a s) {oid : Option Nat} {id : Nat} (hbase : E.base ≤ id) {e : TypeId} {ds : List D} {c : C} {v v' u0 : Value} {w' : World} {tv : List Value}
    (ho : (oid = none ∧ v.ownBlock = none) ∨ ∃ i b, oid = some i ∧ (i, b) ∈ s.bx ∧ boxBlk M (i, b) = v.ownBlock)
    (hu : ∀ d ∈ ds, d.cells.length = 1)
    (hc : ∀ (j : Nat) (c : D), (flat ds)[j]? = some c → ∃ u, tv[j]? = some u ∧ RelD w (Av E.A0 M s.bx) c u) (hcu : C.rel w (Av E.A0 M s.bx) M c u0)
    (hown : w'.ownsRow 0 e 1 v' (ds.length + 1) (tv ++ [u0])) (hg : w.grownBy w' v.ownBlock) (hblk : ∀ k, v'.ownBlock = some k → v.ownBlock = some k ∨ w.heap.size ≤ k) :
    ∃ M', St E M' w' a (((dropOpt oid s).drop id).push id (.nest e ds ((scrubOpt oid c).scrub id))) ∧ M'.rv id = v' := by
  obtain ⟨M1, h1, hav1, hold1, hc1⟩ : ∃ M1, StA E M1 w a (dropOpt oid s) (Av E.A0 M s.bx) ∧ (∀ b, Av E.A0 M1 (dropOpt oid s).bx b → Av E.A0 M s.bx b) ∧
      (∀ k, v.ownBlock = some k → (E.O k ∨ E.w0.heap.size ≤ k) ∧ Av E.A0 M s.bx k ∧ ∀ p ∈ (dropOpt oid s).bx, boxBlk M1 p ≠ some k) ∧ C.rel w (Av E.A0 M s.bx) M1 (scrubOpt oid c) u0 := by
    rcases ho with ⟨rfl, hn⟩ | ⟨i, b, rfl, hm, hb⟩
    · exact ⟨M, h.toA, fun _ h => h, (fun k hk => by rw [hn] at hk; cases hk), hcu⟩
    · refine ⟨M.upd i 0 undef 0, h.toA.drop i 0 undef 0, fun _ hb => Av_drop hb, fun k hk => ?_, C.scrub_rel hcu⟩
      rw [← hb] at hk
      refine ⟨(h.boxes.new _ hm k hk).1, .inr ⟨_, hm, hk⟩, fun p hp hpk => ?_⟩
      obtain ⟨hne, b', hm', he⟩ := mem_drop hp
      obtain ⟨pi, pb⟩ := p
      simp only at he hne hm'
      subst he
      rw [boxBlk_upd hne, boxBlk_scrub] at hpk
      have := blks_inj h.boxes.blks _ hm' _ hm k hpk hk
      cases this
      exact hne rfl
  have h2 := h1.drop id (v'.ownBlock.getD 0) v' 1
  refine ⟨M1.upd id (v'.ownBlock.getD 0) v' 1, StA.push (row := v.ownBlock) h2 drop_free hbase hg (fun k hk => ?_) (fun b hb => hav1 b (Av_drop hb)) (fun k hk => ?_) (fun A' hA' => ?_), by simp [BMap.upd]⟩
  · obtain ⟨g1, g2, g3⟩ := hold1 k hk
    refine ⟨g1, g2, fun p hp hpk => ?_⟩
    obtain ⟨hne, b', hm', he⟩ := mem_drop hp
    obtain ⟨pi, pb⟩ := p
    simp only at he hne hm'
    subst he
    rw [boxBlk_upd hne, boxBlk_scrub] at hpk
    exact g3 _ hm' hpk
  · have hk' : v'.ownBlock = some k := by simpa [boxBlk, BMap.upd] using hk
    exact ⟨hblk k hk', (hown.lt k hk').2⟩
  · refine ⟨tv, u0, ?_, hu, by simp [BMap.upd], fun j c hj => ?_, (C.scrub_rel hc1).mono hA', ?_⟩
    · simpa [BMap.upd] using hown
    · obtain ⟨u, hu, hr⟩ := hc j c hj
      exact ⟨u, hu, hr.mono hA'⟩
    · rcases hown.2 with ⟨_, h0⟩ | ⟨g, cap, cur, hv, _⟩
      · omega
      · simp [BMap.upd, hv, Value.ownBlock]

/-- Where a row of one row is appended: nothing, or a nest whose last row is data now. -/
def oldNest (bx : List (Nat × Box)) (e : TypeId) (x : LV) : Option (Option Nat × List D) :=
  match x with
  | .one (.dat (.con (.slice none 0 0))) => some (none, [])
  | .one (.own id) => match bx.lookup id with
    | some (.nest e' es (.dat d)) => match e' == e && d.one with
      | true => some (some id, es ++ [d])
      | false => none
    | _ => none
  | _ => none

theorem oldNest_owns {bx : List (Nat × Box)} (hb : ∀ id b, (id, b) ∈ bx → BoxOK w A M id b) {e : TypeId} {x : LV} {v : Value} {oid : Option Nat} {es : List D} (h : oldNest bx e x = some (oid, es)) (hx : LV.rel w A M x v) :
    (∀ d ∈ es, d.cells.length = 1) ∧ ∃ xs : List Value, w.ownsRow 0 e 1 v es.length xs ∧ (∀ (j : Nat) (c : D), (flat es)[j]? = some c → ∃ u, xs[j]? = some u ∧ RelD w A c u) ∧
      ((oid = none ∧ v.ownBlock = none) ∨ ∃ id b, oid = some id ∧ (id, b) ∈ bx ∧ boxBlk M (id, b) = v.ownBlock) := by
  unfold oldNest at h
  split at h
  · cases h
    simp only [LV.rel, C.rel] at hx
    cases hx
    exact ⟨by simp, [], World.ownsRow_nil w 0 e 1, by simp [flat], .inl ⟨rfl, rfl⟩⟩
  · rename_i id
    split at h
    · rename_i e' es' d hl
      split at h
      · rename_i hc
        cases h
        simp only [Bool.and_eq_true, beq_iff_eq] at hc
        obtain ⟨rfl, hd1⟩ := hc
        simp only [LV.rel, C.rel] at hx
        subst hx
        obtain ⟨xs, v0, ho, huni, hM, hcc, hcv, hblk⟩ := hb id _ (lookup_mem hl)
        have hdc : d.cells = [d] := by cases d <;> first | rfl | (simp [D.one] at hd1)
        refine ⟨?_, xs ++ [v0], by simpa using ho, ?_, .inr ⟨id, _, rfl, lookup_mem hl, rfl⟩⟩
        · intro d' hd'
          rcases List.mem_append.1 hd' with hd' | hd'
          · exact huni d' hd'
          · simp only [List.mem_singleton] at hd'; subst hd'; rw [hdc]; rfl
        · intro j c hj
          have hxl : xs.length = es'.length := by have := ho.1; simp at this; omega
          have hfl : (flat es').length = es'.length := by rw [flat_length es' huni, Nat.mul_one]
          rw [flat_append, List.getElem?_append, hfl] at hj
          rw [List.getElem?_append, hxl]
          split at hj
          · rename_i hlt
            rw [if_pos hlt]; exact hcc j c hj
          · rename_i hlt
            rw [if_neg hlt]
            rw [flat_cons, hdc] at hj
            have h0 : j - es'.length = 0 := by
              rcases Nat.eq_zero_or_pos (j - es'.length) with h9 | h9
              · exact h9
              · rw [List.getElem?_eq_none (by simp [flat]; omega)] at hj; cases hj
            rw [h0] at hj ⊢
            simp at hj
            subst hj
            exact ⟨v0, rfl, hcv⟩
      · cases h
    · cases h
  · cases h

theorem TL_nestApp {ops : Array Oper} {o : Oper} {rest : List Oper} (t e : TypeId) (bytes d id : Nat) (oid : Option Nat) (es : List D) (j : Nat) (c : C) {x y : Operand} (hop : o.op = .call { callee := .builtin .append, args := #[x, y], argTypes := #[t, t] }) (hd : o.dst = some d) (hg : o.guard = none)
    (hu : P.underlying t = some (.slice e)) (hi : (P.info? e).map (fun i => (i.size, i.bytes, i.zero.map (·.cells.size))) = some (1, bytes, some 1)) (hby : Nat.blt 0 bytes = true) (hx : oldNest s.bx e (s.ev x) = some (oid, es))
    (hy : s.ev y = .one (.own j)) (hl : s.bx.lookup j = some (.nest e [] c)) (hfit : c.fit s.bx = true) (hroom : (es.length + 1) * bytes ≤ 140737488355328) (hb : Nat.ble base id = true)
    (h : TL P base ops rest Q ((((dropOpt oid s).drop id).push id (.nest e es ((scrubOpt oid c).scrub id))).put (some d) (.one (.own id)))) : TL P base ops (o :: rest) Q s := by
  refine TL_estep hg _ (fun E M w a hE hst => ?_) h
  obtain ⟨ie, hie, he⟩ := Option.map_eq_some_iff.1 hi
  simp only [Prod.mk.injEq] at he
  obtain ⟨hsz, hbytes, hz⟩ := he
  obtain ⟨z, hz, hzs⟩ := Option.map_eq_some_iff.1 hz
  have rx := ev_rel hst.size hst.slots x
  have ry := ev_rel hst.size hst.slots y
  obtain ⟨hu1, xs, hown, hc1, hoid⟩ := oldNest_owns hst.boxes.ok hx rx
  rw [hy] at ry
  simp only [LV.rel, C.rel] at ry
  obtain ⟨ys, u0, ho, _, hM, _, hcu, hblk⟩ := hst.boxes.ok j _ (lookup_mem hl)
  have hys : ys = [] := by have := ho.1; simp at this; exact this
  subst hys
  rcases ho.2 with ⟨_, h0⟩ | ⟨g, cap, cur, hrv, hb0, hg0, hnc, hcm, hcz, htake⟩
  · simp at h0
  · have hu0 : w.cell? (Addr.add ⟨g, 0, none⟩ 0) = some u0 := by
      have h5 : cur[0]? = some u0 := by
        have h6 : (cur.toList.take ((([] : List D).length + 1) * 1))[0]? = some u0 := by rw [htake]; rfl
        rw [List.getElem?_take, if_pos (by simp)] at h6
        simpa using h6
      rw [Addr.add_mid, cell_of_row w g _ cur e (0, 0) hg0]
      simpa using h5
    have hone : u0.oneCell' = true := (C.fit_one hst.boxes.ok hfit hcu).1
    obtain ⟨v', w', hr, hown', hgr, hk⟩ := run_append_own' (P := P) (w := w) t o.type e ie z hu hie hz (by omega) (by omega) (a.eval x) es.length xs (by rw [hsz]; exact hown) (a.eval y) 1 [u0] (by simp [hsz])
      (.inr ⟨⟨g, 0, none⟩, cap, by rw [ry, hrv]; simp, fun i u hi => by
        cases i with
        | zero => simp at hi; subst hi; exact hu0
        | succ i => simp at hi⟩) (by simp [hone]) (by rw [hbytes]; simpa [Nat.blt_eq] using hby) (by rw [hbytes]; exact hroom)
    rw [hsz] at hown'
    obtain ⟨M', hst', hrv'⟩ := hst.renest (by rw [hE]; exact Nat.le_of_ble_eq_true hb) hoid hu1 hc1 hcu hown' hgr hk
    have hrun : (execOp a.eval o).run P w = .ok (.value v') w' := by
      rw [run_builtin hop]
      simp only [builtin, Sem.run_bind, List.map_toArray, List.map_cons, List.map_nil, hr, Result.andThen_ok, Sem.run_pure]
    refine EStep.of_run (M' := M') hrun ?_
    rw [hd]
    exact hst'.put (some d) (by simp only [LV.rel, C.rel]; exact hrv'.symm)

/-- A nest whose last row is data is a row. -/
def DS.nestRow (id : Nat) (es' : List D) (s : DS) : Option (Prop × DS) :=
  match s.bx.lookup id with
  | some (.nest e es (.dat d)) => match d.one with
    | true => some (es ++ [d] = es', s.setBox id (.row e 1 es'))
    | false => none
  | _ => none
theorem T_nestRow {c : Code} (id : Nat) (es' : List D) (s' : DS) {side : Prop} (h : s.nestRow id es' = some (side, s')) (hs : side) {s2 : DS} (h2 : s' = s2) (hq : T P base c Q s2) : T P base c Q s := by
  subst h2
  intro E M w a hE hst
  unfold DS.nestRow at h
  split at h
  · rename_i e es d hl
    split at h
    · rename_i hd1
      simp only [Option.some.injEq, Prod.mk.injEq] at h
      obtain ⟨h1, rfl⟩ := h
      rw [← h1] at hs
      subst hs
      have hm := lookup_mem hl
      refine hq E M w a hE (hst.setBox (b := .row e 1 (es ++ [d])) hm rfl ⟨rfl, rfl, rfl, Nat.le_refl _, fun _ _ _ => rfl⟩ fun A' hA' => ?_)
      have hb : ∀ i b, (i, b) ∈ [(id, Box.nest e es (.dat d))] → BoxOK w A' M i b := by
        intro i b hi
        simp only [List.mem_singleton, Prod.mk.injEq] at hi
        obtain ⟨rfl, rfl⟩ := hi
        exact (hst.boxes.ok _ _ hm).mono hA' (fun _ _ => rfl)
      obtain ⟨g1, xs, g2, g3, g4⟩ := oldNest_owns (bx := [(id, Box.nest e es (.dat d))]) (e := e) (x := .one (.own id)) (v := M.rv id) (oid := some id) (es := es ++ [d]) hb (by simp [oldNest, List.lookup, hd1]) rfl
      obtain ⟨xs0, v0, ho, _, hM, _, _, hblk⟩ := hst.boxes.ok _ _ hm
      exact ⟨xs, g2, g1, hM, g3, fun k hk => by rw [hblk] at hk; exact (Option.some.inj hk).symm⟩
    · cases h
  · cases h
theorem nl_s {α : Type} (enc : α → D) {n : Nat} {l : List α} (h : n = l.length) : n = (l.map enc).length := by rw [List.length_map]; exact h
theorem nb_s {α : Type} (enc : α → D) {i : Int} {l : List α} (h : 0 ≤ i ∧ i < ((l.length + 1 : Nat) : Int)) : 0 ≤ i ∧ i < (((l.map enc).length + 1 : Nat) : Int) := by rw [List.length_map]; exact h
theorem lenn_s {α : Type} (enc : α → D) (l : List α) : True ∧ D.int .i64 (((l.map enc).length + 1 : Nat) : Int) = D.int .i64 ((l.length + 1 : Nat) : Int) := ⟨trivial, by rw [List.length_map]⟩
theorem lenS (l : List Int) : D.int .i64 ((l.map fun x => ((.int .i64 x : Lit), (.lit (.bool true) : DataW Unit))).length : Int) = D.int .i64 ((l.length : Nat) : Int) := by rw [List.length_map]
theorem lenM (l : List (Int × Int)) : D.int .i64 ((l.map fun p => ((.int .i64 p.1 : Lit), (.lit (.int .i64 p.2) : DataW Unit))).length : Int) = D.int .i64 ((l.length : Nat) : Int) := by rw [List.length_map]
end
end Go.DL

/-
  The data-level framework, third series, part e: partial functions have values with a property: one rule for each shape of step, and a tactic that applies them. Generic; no condition.
-/
set_option linter.unusedVariables false
set_option linter.unusedSimpArgs false
namespace Go.DL
def WP {α : Type} (o : Option α) (Q : α → Prop) : Prop := ∃ x, o = some x ∧ Q x
section
variable {α β ρ σ : Type} {Q : ρ → Prop}
theorem WP.eq {o : Option ρ} {r : ρ} (h : WP o fun x => x = r) : o = some r := by obtain ⟨x, h1, rfl⟩ := h; exact h1
theorem WP.of {o : Option ρ} {r : ρ} (h : o = some r) (hq : Q r) : WP o Q := ⟨r, h, hq⟩
theorem WP.mono {o : Option ρ} {Q' : ρ → Prop} (h : WP o Q') (hq : ∀ x, Q' x → Q x) : WP o Q := by obtain ⟨x, h1, h2⟩ := h; exact ⟨x, h1, hq x h2⟩
theorem WP.ret {x : ρ} (h : Q x) : WP (some x) Q := ⟨x, rfl, h⟩
theorem WP.iteD {p : Prop} [d : Decidable p] [i : Decidable (decide p = true)] {a b : Option ρ} (h1 : p → WP a Q) (h2 : ¬ p → WP b Q) : WP (@ite _ (decide p = true) i a b) Q := by
  by_cases h : p
  · rw [if_pos (decide_eq_true h)]; exact h1 h
  · rw [if_neg (by simp [h])]; exact h2 h
theorem WP.iteE [DecidableEq α] {x y : α} [i : Decidable ((x == y) = true)] {a b : Option ρ} (h1 : x = y → WP a Q) (h2 : ¬ x = y → WP b Q) : WP (@ite _ ((x == y) = true) i a b) Q := by
  by_cases h : x = y
  · rw [if_pos (beq_iff_eq.2 h)]; exact h1 h
  · rw [if_neg (by simp [h])]; exact h2 h
theorem WP.iteN [DecidableEq α] {x y : α} [i : Decidable ((x != y) = true)] {a b : Option ρ} (h1 : ¬ x = y → WP a Q) (h2 : x = y → WP b Q) : WP (@ite _ ((x != y) = true) i a b) Q := by
  by_cases h : x = y
  · rw [if_neg (by simp [h])]; exact h2 h
  · rw [if_pos (bne_iff_ne.2 h)]; exact h1 h
theorem WP.iteT [i : Decidable (true = true)] {a b : Option ρ} (h : WP a Q) : WP (@ite _ (true = true) i a b) Q := by rw [if_pos rfl]; exact h
theorem WP.iteF [i : Decidable (false = true)] {a b : Option ρ} (h : WP b Q) : WP (@ite _ (false = true) i a b) Q := by rw [if_neg (by simp)]; exact h
theorem WP.iteNb {c : Bool} [i : Decidable ((!c) = true)] {a b : Option ρ} (h : WP (if c = true then b else a) Q) : WP (@ite _ ((!c) = true) i a b) Q := by
  cases c
  · rw [if_pos (show (!false) = true from rfl)]; rwa [if_neg (by simp)] at h
  · rw [if_neg (show ¬ (!true) = true by simp)]; rwa [if_pos rfl] at h
theorem WP.iteB {c : Bool} [i : Decidable (c = true)] {a b : Option ρ} (h1 : c = true → WP a Q) (h2 : c = false → WP b Q) : WP (@ite _ (c = true) i a b) Q := by
  cases c
  · rw [if_neg (by simp)]; exact h2 rfl
  · rw [if_pos rfl]; exact h1 rfl
theorem WP.ckI {n : Int} {o : Option ρ} (hn : -9223372036854775808 ≤ n ∧ n ≤ 9223372036854775807) (h : WP o Q) : WP (Go.DL.ckI n o) Q := by rw [ckI_pos hn.1 hn.2]; exact h
theorem WP.ck {p : Prop} [Decidable p] {o : Option ρ} (hp : p) (h : WP o Q) : WP (Go.DL.ck p o) Q := by rw [ck_pos hp]; exact h
theorem WP.gn {l : List α} {n : Nat} {k : α → Option ρ} (hn : n < l.length) (h : ∀ x, l[n]? = some x → WP (k x) Q) : WP (Go.DL.gn l n k) Q := by
  have hx : l[n]? = some l[n] := List.getElem?_eq_getElem hn
  rw [gn_some hx]; exact h _ hx
theorem WP.gt {l : List α} {i : Int} {k : α → Option ρ} (hn : 0 ≤ i ∧ i < (l.length : Int)) (h : ∀ x, l[i.toNat]? = some x → WP (k x) Q) : WP (Go.DL.gt l i k) Q := by
  have hx : l[i.toNat]? = some (l[i.toNat]'(by omega)) := List.getElem?_eq_getElem (by omega)
  rw [gt_some hx hn.1]; exact h _ hx
theorem WP.bd {o : Option α} {k : α → Option ρ} {r : α} (ho : o = some r) (h : WP (k r) Q) : WP (Go.DL.bd o k) Q := by rw [ho]; exact h
theorem WP.bdW {o : Option α} {k : α → Option ρ} (h : WP o fun x => WP (k x) Q) : WP (Go.DL.bd o k) Q := by obtain ⟨x, h1, h2⟩ := h; rw [h1]; exact h2
theorem WP.up {o : Option ρ} {Q : σ ⊕ ρ → Prop} (h : WP o fun r => Q (.inr r)) : WP (Go.DL.up o) Q := by obtain ⟨x, h1, h2⟩ := h; exact ⟨.inr x, by rw [h1]; rfl, h2⟩
theorem WP.letO {x : α} {k : α → Option ρ} (h : WP (k x) Q) : WP (Go.DL.letO x k) Q := h
theorem WP.sb {l : List α} {lo hi : Option Int} {k : List α → Option ρ} (h0 : 0 ≤ lo.getD 0 ∧ lo.getD 0 ≤ hi.getD l.length ∧ hi.getD l.length ≤ (l.length : Int)) (h : WP (k (subList l lo hi)) Q) : WP (Go.DL.sb l lo hi k) Q := by
  unfold Go.DL.sb; rw [if_pos h0]; exact h
theorem WP.sbp {n : Nat} {lo hi : Option Int} {k : Nat → Nat → Option ρ} (h0 : 0 ≤ lo.getD 0 ∧ lo.getD 0 ≤ hi.getD n ∧ hi.getD n ≤ (n : Int)) (h : WP (k (lo.getD 0).toNat ((hi.getD n).toNat - (lo.getD 0).toNat)) Q) : WP (Go.DL.sbp n lo hi k) Q := by
  unfold Go.DL.sbp; rw [if_pos h0]; exact h
/-- What one round of a loop leaves: another round's state, which is nearer the end, or the result. -/
def Rnd (I : σ → Prop) (μ : σ → Nat) (n : Nat) (Q : ρ → Prop) : σ ⊕ ρ → Prop
  | .inl y => I y ∧ μ y < n
  | .inr r => Q r
theorem WP.loop {step : σ → Option (σ ⊕ ρ)} {x : σ} (I : σ → Prop) (μ : σ → Nat) (h : ∀ x, I x → WP (step x) (Rnd I μ (μ x) Q)) (h0 : I x) : WP (loopO step x) Q := by
  have key : ∀ n x, μ x = n → I x → WP (loopO step x) Q := by
    intro n
    induction n using Nat.strongRecOn with
    | _ n ih =>
      intro x hn hx
      obtain ⟨z, h1, h2⟩ := h x hx
      match z, h1, h2 with
      | .inr r, h1, h2 => exact ⟨r, loopO_inr h1, h2⟩
      | .inl y, h1, h2 => rw [loopO_inl h1]; have := h2.2; exact ih (μ y) (by omega) y rfl h2.1
  exact key _ x rfl h0
end
end Go.DL

/-
  The data-level framework, third series, part f: regions that draw their order and have many sets, checked in portions. Generic in the program; no condition.
-/
set_option linter.unusedVariables false
set_option linter.unusedSimpArgs false
namespace Go.DL
open Go.RowKit
/-- The sets, as a search tree. -/
inductive Tr where
  | e : Tr
  | n : Tr → Nat → Tr → Tr
def Tr.list : Tr → List Nat
  | .e => []
  | .n a m b => a.list ++ m :: b.list
def Tr.has (k : Nat) : Tr → Bool
  | .e => false
  | .n a m b => match Nat.beq k m with
    | true => true
    | false => match Nat.ble k m with
      | true => a.has k
      | false => b.has k
theorem Tr.has_mem {k : Nat} : ∀ {t : Tr}, t.has k = true → k ∈ t.list
  | .e, h => by cases h
  | .n a m b, h => by
    simp only [Tr.has] at h
    simp only [Tr.list, List.mem_append, List.mem_cons]
    split at h
    · rename_i h1; exact .inr (.inl (Nat.eq_of_beq_eq_true h1))
    · split at h
      · exact .inl (Tr.has_mem h)
      · exact .inr (.inr (Tr.has_mem h))
def pickM (m : Nat) : LV → List (Nat × LV) → LV
  | l, [] => l
  | l, (i, v) :: vs => match m.testBit i with
    | true => pickM m v vs
    | false => pickM m l vs
def slF (m : Nat) : Nat → List (Nat × List (Nat × LV)) → List LV → List LV
  | _, _, [] => []
  | _, [], l => l
  | t, (k, vs) :: r, l :: ls => match Nat.beq k t with
    | true => pickM m l vs :: slF m (t + 1) r ls
    | false => l :: slF m (t + 1) ((k, vs) :: r) ls
def stF (s0 : DS) (vals : List (Nat × List (Nat × LV))) (bxs : List (Nat × Nat × Option Box)) (ids : List Nat) (m : Nat) : DS :=
  ⟨slF m 0 vals s0.sl, match bxs with
    | [] => s0.bx
    | bxs => ids.filterMap fun id => match lastOn m id bxs none with
      | some (some b) => some (id, b)
      | some none => none
      | none => (s0.bx.lookup id).map fun b => (id, b)⟩
/-- The operations that one operation waits for, as a number. -/
def maskOf : List Edge → Nat
  | [] => 0
  | e :: l => match Region.binds .any e with
    | true => 2 ^ e.on ||| maskOf l
    | false => maskOf l
def rdy (n : Nat) (dl : List Nat) (m : Nat) : List Nat := (List.range n).filter fun i => !m.testBit i && Nat.beq (dl.getD i 0 &&& m) (dl.getD i 0)
def edgesR (n : Nat) (dl sets : List Nat) : List (Nat × Nat) := sets.flatMap fun m => (rdy n dl m).map fun i => (m, i)
def dagOk2 (n : Nat) (dl : List Nat) (t : Tr) (sets : List Nat) : Bool :=
  sets.all fun m => ((rdy n dl m).all fun i => t.has (m + 2 ^ i) && Nat.beq (m + 2 ^ i) (m ||| 2 ^ i)) && (!(rdy n dl m).isEmpty || Nat.beq (m + 1) (2 ^ n))
theorem maskOf_bit (l : List Edge) (j : Nat) : (maskOf l).testBit j = true ↔ ∃ e ∈ l, Region.binds .any e = true ∧ e.on = j := by
  induction l with
  | nil => simp [maskOf]
  | cons e l ih =>
    simp only [maskOf]
    split
    · rename_i h
      rw [Nat.testBit_or, Bool.or_eq_true, ih, Nat.testBit_two_pow, decide_eq_true_eq]
      constructor
      · rintro (h1 | ⟨e', h1, h2⟩)
        · exact ⟨e, List.mem_cons_self, h, h1⟩
        · exact ⟨e', List.mem_cons_of_mem _ h1, h2⟩
      · rintro ⟨e', h1, h2, h3⟩
        rcases List.mem_cons.1 h1 with rfl | h4
        · exact .inl h3
        · exact .inr ⟨e', h4, h2, h3⟩
    · rename_i h
      rw [ih]
      constructor
      · rintro ⟨e', h1, h2⟩; exact ⟨e', List.mem_cons_of_mem _ h1, h2⟩
      · rintro ⟨e', h1, h2, h3⟩
        rcases List.mem_cons.1 h1 with rfl | h4
        · rw [h] at h2; cases h2
        · exact ⟨e', h4, h2, h3⟩
theorem and_sub {a m : Nat} : (a &&& m = a) ↔ ∀ j, a.testBit j = true → m.testBit j = true := by
  constructor
  · intro h j hj
    rw [← h, Nat.testBit_and, Bool.and_eq_true] at hj
    exact hj.2
  · intro h
    apply Nat.eq_of_testBit_eq
    intro j
    rw [Nat.testBit_and]
    cases hj : a.testBit j
    · rfl
    · rw [h j hj]; rfl
theorem bitsA_t {n m i : Nat} : (bitsA n m).getD i true = false ↔ i < n ∧ m.testBit i = false := by
  simp only [bitsA, Array.getD_eq_getD_getElem?, List.getElem?_toArray, List.getElem?_map]
  by_cases h : i < n
  · simp [List.getElem?_range h, h]
  · rw [List.getElem?_eq_none (by simp; omega)]; simp [h]
theorem bitsA_f {n m i : Nat} : (bitsA n m).getD i false = true ↔ i < n ∧ m.testBit i = true := by
  simp only [bitsA, Array.getD_eq_getD_getElem?, List.getElem?_toArray, List.getElem?_map]
  by_cases h : i < n
  · simp [List.getElem?_range h, h]
  · rw [List.getElem?_eq_none (by simp; omega)]; simp [h]
theorem bitsA_set {n m i : Nat} (h : i < n) (hb : m.testBit i = false) (he : m + 2 ^ i = m ||| 2 ^ i) : (bitsA n m).setIfInBounds i true = bitsA n (m + 2 ^ i) := by
  rw [he]
  apply Array.ext
  · simp [bitsA]
  · intro j h1 h2
    rw [Array.getElem_setIfInBounds]
    by_cases hij : i = j
    · subst hij
      simp [bitsA, Nat.testBit_or, Nat.testBit_two_pow]
    · rw [if_neg hij]
      simp [bitsA, Nat.testBit_or, Nat.testBit_two_pow, hij]
    · simpa using h1
section
variable {P : Program} {base : Nat} {ops : Array Oper} {Q : DX → DS → Prop} {s : DS}
theorem rdy_iff {l : List Oper} {dl : List Nat} {m i : Nat} (hm : ∀ j, m.testBit j = true → j < l.length) (hd : l.map (fun o => maskOf o.after.toList) = dl) : i ∈ rdy l.length dl m ↔ i ∈ Region.ready .any l.toArray (bitsA l.length m) := by
  rw [mem_ready, bitsA_t]
  simp only [rdy, List.mem_filter, List.mem_range, Bool.and_eq_true, Bool.not_eq_true', List.getElem?_toArray]
  constructor
  · rintro ⟨h1, h2, h3⟩
    refine ⟨⟨h1, h2⟩, l[i], List.getElem?_eq_getElem h1, fun e he hb => ?_⟩
    have hg : dl.getD i 0 = maskOf l[i].after.toList := by rw [← hd]; simp [List.getD, List.getElem?_map, List.getElem?_eq_getElem h1]
    rw [hg] at h3
    have h4 := and_sub.1 (Nat.eq_of_beq_eq_true h3) e.on ((maskOf_bit _ _).2 ⟨e, by simpa using he, hb, rfl⟩)
    exact bitsA_f.2 ⟨hm _ h4, h4⟩
  · rintro ⟨⟨h1, h2⟩, o, ho, h3⟩
    refine ⟨h1, h2, ?_⟩
    have hg : dl.getD i 0 = maskOf o.after.toList := by rw [← hd]; simp [List.getD, List.getElem?_map, ho]
    rw [hg]
    refine Nat.beq_eq ▸ (and_sub.2 fun j hj => ?_)
    obtain ⟨e, he, hb, rfl⟩ := (maskOf_bit _ _).1 hj
    exact (bitsA_f.1 (h3 e (by simpa using he) hb)).2
/-- One portion of the sets. -/
def Portion (P : Program) (base : Nat) (ops : Array Oper) (n : Nat) (dl : List Nat) (hs : List AH) (sides : List Prop) (st : Nat → DS) (ids : List Nat) (t : Tr) (c : List Nat) : Prop :=
  dagOk2 n dl t c = true ∧ (edgesR n dl c).map (anyEdge P base ops hs st ids) = (edgesR n dl c).map fun e => some (sides.getD e.2 True, st (e.1 + 2 ^ e.2))
theorem all_of {α : Type} {p : α → Prop} : ∀ {l : List α}, AllP (l.map p) → ∀ x ∈ l, p x
  | [], _, x, h => by cases h
  | y :: l, h, x, hx => by
    rcases List.mem_cons.1 hx with rfl | h2
    · exact h.1
    · exact all_of h.2 x h2
theorem mem_edges {sets : List Nat} {m i : Nat} : (m, i) ∈ edgesOf ops sets ↔ m ∈ sets ∧ i ∈ Region.ready .any ops (bitsA ops.size m) := by
  constructor
  · intro h
    obtain ⟨m', h1, h2⟩ := List.mem_flatMap.1 h
    obtain ⟨i', h3, h4⟩ := List.mem_map.1 h2
    cases h4
    exact ⟨h1, h3⟩
  · rintro ⟨hm, hi⟩; exact List.mem_flatMap.2 ⟨m, hm, List.mem_map.2 ⟨i, hi, rfl⟩⟩
theorem T_anyV {id : Nat} {l : List Oper} (hs : List AH) (sides : List Prop) (s0 : DS) (vals : List (Nat × List (Nat × LV))) (bxs : List (Nat × Nat × Option Box)) (ids : List Nat) (n : Nat) (dl : List Nat) (t : Tr) (chunks : List (List Nat)) (sv : DS) (hm : P.follows .mixedOrders = true) (hn : decide ids.Nodup = true)
    (hc : t.list = chunks.flatten) (h00 : t.has 0 = true) (h0 : stF s0 vals bxs ids 0 = s) (hl : l.length = n) (hd : l.map (fun o => maskOf o.after.toList) = dl) (hb : (t.list.all fun m => Nat.blt m (2 ^ n)) = true)
    (hE : AllP (chunks.map (Portion P base l.toArray n dl hs sides (stF s0 vals bxs ids) ids t)))
    (hside : AllP sides) (hsv : stF s0 vals bxs ids (2 ^ n - 1) = sv) (hend : Q .normal sv) : T P base (.region id l.toArray true) Q s := by
  subst hl
  have hch : ∀ m ∈ t.list, ∃ c ∈ chunks, m ∈ c := fun m hm => by rw [hc] at hm; simpa using hm
  have hbit : ∀ m ∈ t.list, ∀ j, m.testBit j = true → j < l.length := fun m hm j hj => by
    rw [List.all_eq_true] at hb
    have h1 := hb m hm
    simp only [Nat.blt_eq] at h1
    exact (Nat.pow_lt_pow_iff_right (by omega : 1 < 2)).1 (Nat.lt_of_le_of_lt (Nat.ge_two_pow_of_testBit hj) h1)
  refine T_any (edgesOf l.toArray t.list) t.list (stF s0 vals bxs ids) hm ?_ (DS.le_of_eq h0.symm) (Edges.of fun e he => ?_) (by rw [hsv]; exact hend)
  · unfold dagOk
    rw [Bool.and_eq_true, List.all_eq_true]
    refine ⟨by simpa using Tr.has_mem h00, fun m hm => ?_⟩
    obtain ⟨c, hc1, hc2⟩ := hch m hm
    have h1 := (all_of hE c hc1).1
    unfold dagOk2 at h1
    rw [List.all_eq_true] at h1
    have h2 := h1 m hc2
    rw [Bool.and_eq_true, List.all_eq_true] at h2
    simp only [List.size_toArray]
    rw [Bool.and_eq_true, List.all_eq_true]
    refine ⟨fun i hi => ?_, ?_⟩
    · have hr := (rdy_iff (hbit m hm) hd).2 hi
      have h3 := h2.1 i hr
      simp only [Bool.and_eq_true] at h3 ⊢
      obtain ⟨⟨h5, h6⟩, _⟩ := mem_ready.1 hi |>.imp_left (bitsA_t.1 ·) |> fun h => (⟨h.1, trivial⟩ : (_ ∧ _) ∧ True)
      refine ⟨⟨⟨?_, by rw [h6]; rfl⟩, by simpa using Tr.has_mem h3.1⟩, ?_⟩
      · rw [List.contains_iff_mem]; exact mem_edges.2 ⟨hm, by simpa using hi⟩
      · rw [beq_iff_eq]; exact bitsA_set h5 h6 (Nat.eq_of_beq_eq_true h3.2)
    · have h4 := h2.2
      rw [Bool.or_eq_true] at h4 ⊢
      rcases h4 with h4 | h4
      · left
        cases hr : rdy l.length dl m with
        | nil => rw [hr] at h4; cases h4
        | cons i r =>
          have hi := (rdy_iff (hbit m hm) hd).1 (show i ∈ rdy l.length dl m by rw [hr]; exact List.mem_cons_self)
          cases hq : Region.ready .any l.toArray (bitsA l.length m) with
          | nil => rw [hq] at hi; cases hi
          | cons _ _ => rfl
      · right; rw [beq_iff_eq]; exact Nat.eq_of_beq_eq_true h4
  · obtain ⟨m, i⟩ := e
    obtain ⟨h1, h2⟩ := mem_edges.1 he
    obtain ⟨c, hc1, hc2⟩ := hch m h1
    have h3 := (rdy_iff (hbit m h1) hd).2 (by simpa using h2)
    have := List.map_inj_left.1 (all_of hE c hc1).2 (m, i) (List.mem_flatMap.2 ⟨m, hc2, List.mem_map.2 ⟨i, h3, rfl⟩⟩)
    exact anyEdge_sound (of_decide_eq_true hn) this (AllP.get hside i)
end
end Go.DL

/-
  The data-level framework, third series, part g: maps from numbers to structs; objects that are held fast; ranging over a set. Generic in the program; no condition.
-/
set_option linter.unusedVariables false
set_option linter.unusedSimpArgs false
namespace Go.DL
open Go.RowKit Go.Maps
section
variable {α β : Type}
def lookM : List (Int × α) → Int → Option α
  | [], _ => none
  | p :: l, a => if p.1 = a then some p.2 else lookM l a
def insM (x : Int × α) : List (Int × α) → List (Int × α)
  | [] => [x]
  | y :: r => if x.1 < y.1 then x :: y :: r else y :: insM x r
def putM (l : List (Int × α)) (a : Int) (v : α) : List (Int × α) := insM (a, v) (l.filter fun p => !(p.1 == a))
def mapE (q : α → D) (l : List (Int × α)) : List (Lit × List D) := l.map fun p => (.int .i64 p.1, (q p.2).cells)
theorem lookM_map (g : α → β) (l : List (Int × α)) (a : Int) : lookM (l.map fun p => (p.1, g p.2)) a = (lookM l a).map g := by
  induction l with
  | nil => rfl
  | cons p l ih =>
    simp only [List.map_cons, lookM]
    split
    · rfl
    · exact ih
theorem insM_map (g : α → β) (x : Int × α) (l : List (Int × α)) : (insM x l).map (fun p => (p.1, g p.2)) = insM (x.1, g x.2) (l.map fun p => (p.1, g p.2)) := by
  induction l with
  | nil => rfl
  | cons y r ih =>
    simp only [insM, List.map_cons]
    split
    · rfl
    · rw [List.map_cons, ih]
theorem putM_map (g : α → β) (l : List (Int × α)) (a : Int) (v : α) : (putM l a v).map (fun p => (p.1, g p.2)) = putM (l.map fun p => (p.1, g p.2)) a (g v) := by
  unfold putM
  rw [insM_map, List.filter_map]; rfl
theorem mem_insM {x y : Int × α} {l : List (Int × α)} : y ∈ insM x l ↔ y = x ∨ y ∈ l := by
  induction l with
  | nil => simp [insM]
  | cons z r ih =>
    rw [insM]; split
    · simp
    · rw [List.mem_cons, ih, List.mem_cons]
      constructor
      · rintro (h | h | h)
        · exact .inr (.inl h)
        · exact .inl h
        · exact .inr (.inr h)
      · rintro (h | h | h)
        · exact .inr (.inl h)
        · exact .inl h
        · exact .inr (.inr h)
theorem mem_putM {y : Int × α} {l : List (Int × α)} {a : Int} {v : α} : y ∈ putM l a v → y = (a, v) ∨ y ∈ l := by
  intro h
  rcases mem_insM.1 h with h | h
  · exact .inl h
  · exact .inr (List.mem_filter.1 h).1
/-- Keys, elements and values of a map. -/
def dz (z : List (Int × α × Value)) : DataW Value := .map (z.map fun p => (Lit.int .i64 p.1, .held p.2.2))
theorem dz_get (z : List (Int × α × Value)) (a : Int) (zd : DataW Value) : (dz z).atKey (.int .i64 a) zd = match lookM z a with | some y => .held y.2 | none => zd := by
  simp only [dz, DataW.atKey]
  induction z with
  | nil => rfl
  | cons p l ih =>
    simp only [List.map_cons, List.find?_cons, Lit.sameKey, lookM]
    by_cases h : p.1 = a
    · simp [h]
    · simp only [h, and_false, decide_false, if_false]
      exact ih
theorem dz_has (z : List (Int × α × Value)) (a : Int) : Maps.has (dz z) (.int .i64 a) = (lookM z a).isSome := by
  simp only [dz, Maps.has]
  induction z with
  | nil => rfl
  | cons p l ih =>
    simp only [List.map_cons, List.any_cons, Lit.sameKey, lookM]
    by_cases h : p.1 = a
    · simp [h]
    · simp only [h, and_false, decide_false, if_false, Bool.false_or]
      exact ih
theorem dz_ins (x : Int × α × Value) (l : List (Int × α × Value)) : DataW.insert ((.int .i64 x.1 : Lit), (.held x.2.2 : DataW Value)) (l.map fun p => (.int .i64 p.1, .held p.2.2)) = (insM x l).map fun p => (.int .i64 p.1, .held p.2.2) := by
  induction l with
  | nil => rfl
  | cons y r ih =>
    simp only [List.map_cons, DataW.insert, insM, Lit.before]
    by_cases h : x.1 < y.1
    · simp [h]
    · simp only [h, decide_false, if_false, Bool.false_eq_true, List.map_cons]
      rw [ih]
theorem dz_put (z : List (Int × α × Value)) (a : Int) (x : α) (v : Value) : (dz z).put (.int .i64 a) (.held v) = dz (putM z a (x, v)) := by
  simp only [dz, DataW.put, putM]
  rw [← dz_ins (a, x, v), List.filter_map]
  congr 3
  refine List.filter_congr fun p _ => ?_
  simp only [Lit.sameKey, Function.comp_def, true_and]
  by_cases h : p.1 = a <;> simp [h]
end
section
variable {P : Program} {w : World} {A : Nat → Prop} {M : BMap} {base : Nat} {Q : DX → DS → Prop} {s : DS} {α : Type} {q : α → D}
theorem dats_rel {ds : List D} {v : Value} (h : datsRel w A ds v) : LV.rel w A M (.agg (ds.map .dat)) v := by
  obtain ⟨arr, h1, h2, h3⟩ := h
  refine ⟨arr, h1, by rw [h2, List.length_map], fun j c hj => ?_⟩
  simp only [List.getElem?_map, Option.map_eq_some_iff] at hj
  obtain ⟨d, hd, rfl⟩ := hj
  exact h3 j d hd
theorem rel_dats {ds : List D} {v : Value} (h : LV.rel w A M (.agg (ds.map .dat)) v) : datsRel w A ds v := by
  obtain ⟨arr, h1, h2, h3⟩ := h
  refine ⟨arr, h1, by rw [h2, List.length_map], fun j d hj => ?_⟩
  exact h3 j (.dat d) (by rw [List.getElem?_map, hj]; rfl)
theorem lvs_zip : ∀ {l : List (Int × α)} {vs : List Value}, lvsRel w A (mapE q l) vs → ∃ z : List (Int × α × Value), l = z.map (fun p => (p.1, p.2.1)) ∧ vs = z.map (fun p => p.2.2) ∧ ∀ p ∈ z, datsRel w A (q p.2.1).cells p.2.2
  | [], [], _ => ⟨[], rfl, rfl, by simp⟩
  | [], _ :: _, h => by have := h.1; simp [mapE] at this
  | _ :: _, [], h => by have := h.1; simp [mapE] at this
  | p :: l, v :: vs, h => by
    obtain ⟨z, h1, h2, h3⟩ := lvs_zip (l := l) (vs := vs) ⟨by have := h.1; simpa [mapE] using this, fun j p' hj => by
      have := h.2 (j + 1) p' (by simpa [mapE] using hj)
      simpa using this⟩
    obtain ⟨v', hv, hr⟩ := h.2 0 (.int .i64 p.1, (q p.2).cells) rfl
    simp at hv; subst hv
    refine ⟨(p.1, p.2, v) :: z, by rw [h1]; rfl, by rw [h2]; rfl, fun y hy => ?_⟩
    rcases List.mem_cons.1 hy with rfl | hy
    · exact hr
    · exact h3 y hy
theorem lvs_unzip {z : List (Int × α × Value)} (h : ∀ p ∈ z, datsRel w A (q p.2.1).cells p.2.2) : lvsRel w A (mapE q (z.map fun p => (p.1, p.2.1))) (z.map fun p => p.2.2) := by
  refine ⟨by simp [mapE], fun j p hj => ?_⟩
  simp only [mapE, List.map_map, List.getElem?_map, Option.map_eq_some_iff] at hj
  obtain ⟨y, hy, rfl⟩ := hj
  exact ⟨y.2.2, by rw [List.getElem?_map, hy]; rfl, h y (List.mem_of_getElem? hy)⟩
theorem ents_z (z : List (Int × α × Value)) : entsV ((mapE q (z.map fun p => (p.1, p.2.1))).map (·.1)) (z.map fun p => p.2.2) = dz z := by
  simp only [entsV, mapE, dz, List.map_map]
  rw [List.zip_map', List.map_map]; rfl
/-- The map box, opened. -/
theorem mapl_open {b : Nat} {v : Value} {k : TypeId} {l : List (Int × α)} (h : maplOK w A b v P k (mapE q l)) :
    v = .map (some b) ∧ ∃ z : List (Int × α × Value), l = z.map (fun p => (p.1, p.2.1)) ∧ (∀ p ∈ z, datsRel w A (q p.2.1).cells p.2.2) ∧ w.ownsMap P k heldElem b z.length (dz z) := by
  obtain ⟨h1, n, vs, h2, h3⟩ := h
  obtain ⟨z, rfl, rfl, h4⟩ := lvs_zip h3
  rw [ents_z] at h2
  refine ⟨h1, z, rfl, h4, ?_⟩
  obtain ⟨es, clock, hb, F, _, hD⟩ := h2
  refine ⟨es, clock, hb, F, ?_, hD⟩
  have h5 := congrArg (fun d => match d with | DataW.map es => es.length | _ => 0) hD
  simp only [dz, List.length_map] at h5
  rw [length_sorted] at h5
  simp at h5
  omega
theorem mapl_shut {b n : Nat} {k : TypeId} {z : List (Int × α × Value)} (h4 : ∀ p ∈ z, datsRel w A (q p.2.1).cells p.2.2) (h : w.ownsMap P k heldElem b n (dz z)) : maplOK w A b (.map (some b)) P k (mapE q (z.map fun p => (p.1, p.2.1))) :=
  ⟨rfl, n, z.map (fun p => p.2.2), by rw [ents_z]; exact h, lvs_unzip h4⟩
/-- The zero value of a struct. -/
def zeroAgg (P : Program) (t : TypeId) : Option (List C) :=
  match P.info? t with
  | some i => match i.zero with
    | some (.agg a) => some (a.toList.map ofConstCell)
    | _ => none
  | none => none
theorem zeroAgg_run {t : TypeId} {cs : List C} (h : zeroAgg P t = some cs) (w : World) : ∃ arr : Array Value, (zeroValue t).run P w = .ok (.agg arr) w ∧ ∀ A M, LV.rel w A M (.agg cs) (.agg arr) := by
  unfold zeroAgg at h
  split at h
  · rename_i i hi
    split at h
    · rename_i a hz
      simp only [Option.some.injEq] at h
      subst h
      refine ⟨a, by simp [zeroValue, typeInfo, hi, hz], fun A M => ⟨a, rfl, by simp, fun j c hj => ?_⟩⟩
      simp only [List.getElem?_map, Option.map_eq_some_iff] at hj
      obtain ⟨u, hu, rfl⟩ := hj
      exact ⟨u, by simpa using hu, ofConstCell_rel u⟩
    · cases h
  · cases h
/-- Cells that a type's zero cells read as: a nil slice as an empty list. -/
def fitZ : List C → List C → Prop
  | [], [] => True
  | c :: cs, d :: ds => (d = c ∨ ∃ sz, d = c.unnil sz) ∧ fitZ cs ds
  | _, _ => False
theorem fitZ_at : ∀ {cs ds : List C}, fitZ cs ds → ds.length = cs.length ∧ ∀ (j : Nat) (d : C), ds[j]? = some d → ∃ c, cs[j]? = some c ∧ (d = c ∨ ∃ sz, d = c.unnil sz)
  | [], [], _ => ⟨rfl, by simp⟩
  | [], _ :: _, h => h.elim
  | _ :: _, [], h => h.elim
  | c :: cs, d :: ds, h => by
    obtain ⟨h1, h2⟩ := fitZ_at h.2
    refine ⟨by simp [h1], fun j x hj => ?_⟩
    cases j with
    | zero => simp at hj; subst hj; exact ⟨c, rfl, h.1⟩
    | succ j => exact h2 j x (by simpa using hj)
theorem fitZ_rel {cs ds : List C} {v : Value} (h : fitZ cs ds) (hv : LV.rel w A M (.agg cs) v) : LV.rel w A M (.agg ds) v := by
  obtain ⟨arr, h1, h2, h3⟩ := hv
  obtain ⟨h4, h5⟩ := fitZ_at h
  refine ⟨arr, h1, by rw [h2, h4], fun j d hj => ?_⟩
  obtain ⟨c, hc, hd⟩ := h5 j d hj
  obtain ⟨u, hu, hr⟩ := h3 j c hc
  refine ⟨u, hu, ?_⟩
  rcases hd with rfl | ⟨sz, rfl⟩
  · exact hr
  · exact C.unnil_rel hr
theorem TL_makeMapE {ops : Array Oper} {o : Oper} {rest : List Oper} (t k e : TypeId) (d id : Nat) (hop : o.op = .makeMap t none) (hd : o.dst = some d) (hg : o.guard = none) (hu : P.underlying t = some (.map k e)) (hb : Nat.ble base id = true)
    (h : TL P base ops rest Q (((s.drop id).push id (.mapl P k [])).put (some d) (.one (.own id)))) : TL P base ops (o :: rest) Q s := by
  refine TL_estep hg _ (fun E M w a hE hst => ?_) h
  have hr : (execOp a.eval o).run P w = .ok (.value (.map (some w.heap.size))) (w.alloc (.map #[] 0)) := by
    simp [execOp, hop, run_makeMap]
  refine EStep.of_run (M' := M.upd id w.heap.size (.map (some w.heap.size)) 0) hr ?_
  rw [hd]
  refine St.put ?_ (some d) (by simp [LV.rel, C.rel, BMap.upd])
  refine StA.push (hst.toA.drop id w.heap.size (.map (some w.heap.size)) 0) drop_free (by rw [hE]; exact Nat.le_of_ble_eq_true hb) (row := none) (World.grownBy_alloc w _ none) (fun k hk => by cases hk) (fun b hb => Av_drop hb) (fun k hk => ?_) fun A' _ => ?_
  · simp only [boxBlk, BMap.upd, if_true, Option.some.injEq] at hk
    subst hk
    exact ⟨.inr (Nat.le_refl _), by simp⟩
  · refine ⟨by simp [BMap.upd], 0, [], ?_, by simp [lvsRel]⟩
    simp only [BMap.upd, if_true]
    exact World.ownsMap_made w P k heldElem
theorem keyI {k : TypeId} (hk : P.underlying k = some (.int .i64)) {a : Int} (h1 : -9223372036854775808 ≤ a ∧ a ≤ 9223372036854775807) : keyOf P k (.int .i64 a) = some (.int .i64 a) := by
  simp [keyOf, hk, mapKey, wf_i64 h1.1 h1.2]
theorem TL_lookE {ops : Array Oper} {o : Oper} {rest : List Oper} (t k e : TypeId) (id : Nat) (m x : Operand) (q : α → D) (z0 : α) (l : List (Int × α)) (a : Int) (hop : o.op = .lookup t m x true) (hg : o.guard = none) (hu : P.underlying t = some (.map k e)) (hk : P.underlying k = some (.int .i64))
    {zc : List C} (hz : zeroAgg P e = some zc) (hfz : fitZ zc ((q z0).cells.map .dat)) (hm : s.ev m = .one (.own id)) (hx : s.ev x = .one (.dat (.int .i64 a))) (hl : s.bx.lookup id = some (.mapl P k (mapE q l))) (h1 : -9223372036854775808 ≤ a ∧ a ≤ 9223372036854775807)
    (h : TL P base ops rest Q (s.put o.dst (.tup [(true, ((q ((lookM l a).getD z0)).cells.map .dat)), (false, [.dat (.bool (lookM l a).isSome)])]))) : TL P base ops (o :: rest) Q s := by
  refine TL_estep hg _ (fun E M w act hE hst => ?_) h
  have rm := ev_rel hst.size hst.slots m
  have rx := ev_rel hst.size hst.slots x
  rw [hm] at rm
  rw [hx] at rx
  simp only [LV.rel, C.rel] at rm rx
  have rx := relD_int rx
  obtain ⟨g1, z, rfl, g2, g3⟩ := mapl_open (hst.boxes.ok id _ (lookup_mem hl))
  obtain ⟨za, hzr, hzl⟩ := zeroAgg_run hz w
  obtain ⟨v, ps, hrun, hv⟩ := g3.look_ok (int_keyed hk) hu hzr (zd := .held (.agg za)) (zp := []) rfl (keyI hk h1)
  rw [dz_has] at hrun
  rw [dz_get] at hv
  have e1 : lookM (z.map fun p => (p.1, p.2.1)) a = (lookM z a).map (·.1) := lookM_map (fun y : α × Value => y.1) z a
  have hr : (execOp act.eval o).run P w = .ok (.value (.tuple #[v, .bool (lookM z a).isSome])) w := by
    simp [execOp, hop, rm, g1, rx, hrun]
  refine EStep.of_run (M' := M) hr (hst.put o.dst ?_)
  have hva : LV.rel w (Av E.A0 M s.bx) M (.agg ((q ((lookM (z.map fun p => (p.1, p.2.1)) a).getD z0)).cells.map .dat)) v := by
    rw [e1]
    cases hf : lookM z a with
    | none =>
      rw [hf] at hv
      simp only [heldElem, Option.some.injEq, Prod.mk.injEq, DataW.held.injEq] at hv
      rw [hv.1]; exact fitZ_rel hfz (hzl _ _)
    | some y =>
      rw [hf] at hv
      simp only [heldElem, Option.some.injEq, Prod.mk.injEq, DataW.held.injEq] at hv
      rw [hv.1]
      have hmem : ∃ p ∈ z, p.2 = y := by
        clear hrun hv hr g3 g2 hl h e1
        induction z with
        | nil => cases hf
        | cons p z ih =>
          rw [lookM] at hf
          split at hf
          · cases hf; exact ⟨p, by simp, rfl⟩
          · obtain ⟨p', h1, h2⟩ := ih hf
            exact ⟨p', by simp [h1], h2⟩
      obtain ⟨p, hp, rfl⟩ := hmem
      exact dats_rel (g2 p hp)
  refine ⟨_, rfl, rfl, fun j p hj => ?_⟩
  match j, hj with
  | 0, hj => simp at hj; subst hj; exact ⟨v, rfl, hva⟩
  | 1, hj =>
    simp at hj; subst hj
    refine ⟨_, rfl, ?_⟩
    rw [e1, Option.isSome_map]
    exact .bool _
  | j + 2, hj => simp at hj
theorem TL_storeE {ops : Array Oper} {o : Oper} {rest : List Oper} (t k e : TypeId) (id : Nat) (m x y : Operand) (q : α → D) (l : List (Int × α)) (a : Int) (v : α) (hop : o.op = .mapUpdate t m x y) (hg : o.guard = none) (hu : P.underlying t = some (.map k e)) (hk : P.underlying k = some (.int .i64))
    (hm : s.ev m = .one (.own id)) (hx : s.ev x = .one (.dat (.int .i64 a))) (hy : s.ev y = .agg ((q v).cells.map .dat)) (hl : s.bx.lookup id = some (.mapl P k (mapE q l))) (h1 : -9223372036854775808 ≤ a ∧ a ≤ 9223372036854775807) (hn : l.length < maxLen)
    (h : TL P base ops rest Q ((s.setBox id (.mapl P k (mapE q (putM l a v)))).put o.dst UD)) : TL P base ops (o :: rest) Q s := by
  refine TL_estep hg _ (fun E M w act hE hst => ?_) h
  have rm := ev_rel hst.size hst.slots m
  have rx := ev_rel hst.size hst.slots x
  have ry := ev_rel hst.size hst.slots y
  rw [hm] at rm
  rw [hx] at rx
  rw [hy] at ry
  simp only [LV.rel, C.rel] at rm rx
  have rx := relD_int rx
  have hmem := lookup_mem hl
  obtain ⟨g1, z, rfl, g2, g3⟩ := mapl_open (hst.boxes.ok id _ hmem)
  rw [List.length_map] at hn
  obtain ⟨w', hrun, r1, r2⟩ := g3.update (int_keyed hk) hu hn (key := .int .i64 a) (kl := .int .i64 a) (val := act.eval y) (d := .held (act.eval y)) (ps := []) (keyI hk h1) rfl
  rw [dz_put z a v] at r1
  intro K Q' hK
  have e1 : putM (z.map fun p => (p.1, p.2.1)) a v = (putM z a (v, act.eval y)).map fun p => (p.1, p.2.1) := (putM_map (fun y : α × Value => y.1) z a (v, act.eval y)).symm
  have hst' : St E M w' act (s.setBox id (.mapl P k (mapE q (putM (z.map fun p => (p.1, p.2.1)) a v)))) := hst.setBox (b := .mapl P k (mapE q (putM (z.map fun p => (p.1, p.2.1)) a v))) hmem rfl r2 fun A' hA' => by
    show maplOK _ _ _ _ _ _ _
    rw [e1, g1]
    refine mapl_shut (fun p hp => ?_) r1
    rcases mem_putM hp with rfl | hp
    · exact rel_dats (LV.rel.mono hA' ry)
    · exact (g2 p hp).imp fun d u hr => RelD.mono hA' hr
  have := hK undef w' M (hst'.put o.dst ud_rel)
  unfold Oper.wp
  simp only [execOp, hop, rm, g1, rx, Sem.run_bind, hrun, Result.andThen]
  exact this
end
end Go.DL

/-
  The data-level framework, third series, part h: ranging over a set of numbers, in whatever order. Generic in the program; no condition.
-/
set_option linter.unusedVariables false
set_option linter.unusedSimpArgs false
namespace Go.DL
open Go.RowKit Go.Maps
/-- An object that is held fast. -/
def pin (b : Nat) (v : Value) (o : Obj) : Nat → Value → Obj → Prop := fun b' v' o' => b' = b ∧ v' = v ∧ o' = o
/-- The object is an iterator over the set in block b (whose object is om); the numbers of R are still to come. -/
def ItOK (P : Program) (k e : TypeId) (b : Nat) (om : Obj) (R : List Int) : Nat → Value → Obj → Prop := fun r _ o =>
  r ≠ b ∧ ∀ w : World, w.heap[b]? = some om → w.heap[r]? = some o → ∃ n left cnt l, w.ranges P k (plainElem (H := Unit) P e) b r n (mapS l) left cnt ∧ ∀ x : Int, left (.int .i64 x) = true ↔ x ∈ R
/-- .. and it stands at the number x. -/
def CurOK (P : Program) (k e : TypeId) (b : Nat) (om : Obj) (R : List Int) (x : Int) : Nat → Value → Obj → Prop := fun r v o =>
  ItOK P k e b om R r v o ∧ ∀ w : World, w.heap[b]? = some om → w.heap[r]? = some o → ∃ y, (Instr.entry (.pointer (some ⟨r, 0, none⟩))).run P w = .ok (.tuple #[.int .i64 x, y]) w
section
variable {σ ρ : Type}
/-- What a range over numbers makes, in one order. -/
def rangeO (step : Int → σ → Option (σ ⊕ ρ)) (fin : σ → Option ρ) : List Int → σ → Option ρ
  | [], x => fin x
  | k :: ks, x => match step k x with
    | some (.inl y) => rangeO step fin ks y
    | some (.inr r) => some r
    | none => none
open Classical in
/-- What is made in whatever order; nothing, if the orders differ. -/
noncomputable def allO (l : List Int) (G : List Int → Option ρ) : Option ρ := if h : ∃ r, ∀ ks, ks.Perm l → G ks = some r then some h.choose else none
theorem allO_inv {l : List Int} {G : List Int → Option ρ} {r : ρ} (h : allO l G = some r) : ∀ ks, ks.Perm l → G ks = some r := by
  unfold allO at h
  split at h
  · rename_i hex
    cases h
    exact hex.choose_spec
  · cases h
theorem allO_of {l : List Int} {G : List Int → Option ρ} {r : ρ} (h : ∀ ks, ks.Perm l → G ks = some r) : allO l G = some r := by
  unfold allO
  have hex : ∃ r, ∀ ks, ks.Perm l → G ks = some r := ⟨r, h⟩
  rw [dif_pos hex]
  have h1 := hex.choose_spec l (List.Perm.refl _)
  rw [h l (List.Perm.refl _)] at h1
  exact h1.symm
/-- What holds of the numbers that are still to come. -/
def RngI (step : Int → σ → Option (σ ⊕ ρ)) (fin : σ → Option ρ) (r : ρ) (p : List Int × σ) : Prop := p.1.Nodup ∧ ∀ ks, ks.Perm p.1 → rangeO step fin ks p.2 = some r
theorem RngI.nil {step : Int → σ → Option (σ ⊕ ρ)} {fin : σ → Option ρ} {r : ρ} {x : σ} {R : List Int} (h : RngI step fin r (R, x)) (hR : R = []) : fin x = some r := by
  subst hR; exact h.2 [] (List.Perm.refl _)
theorem RngI.more {step : Int → σ → Option (σ ⊕ ρ)} {fin : σ → Option ρ} {r : ρ} {x : σ} {R : List Int} (h : RngI step fin r (R, x)) {k : Int} (hk : k ∈ R) :
    (∃ z, step k x = some z ∧ (∀ r', z = .inr r' → r' = r) ∧ ∀ y, z = .inl y → RngI step fin r (R.filter fun y => !(y == k), y)) ∧ (R.filter fun y => !(y == k)).length < R.length := by
  have hp : (k :: R.filter fun y => !(y == k)).Perm R := by
    have e : (R.filter fun y => !(y == k)) = R.erase k := by rw [h.1.erase_eq_filter]; rfl
    rw [e]; exact (List.perm_cons_erase hk).symm
  have hl := hp.length_eq
  refine ⟨?_, by rw [List.length_cons] at hl; omega⟩
  have h1 := h.2 _ hp
  rw [rangeO] at h1
  split at h1
  · rename_i y hy
    refine ⟨_, hy, (fun r' e => by cases e), fun y' e => ?_⟩
    cases e
    refine ⟨h.1.filter _, fun ks hks => ?_⟩
    have h2 := h.2 (k :: ks) ((hks.cons k).trans hp)
    rw [rangeO, hy] at h2
    exact h2
  · rename_i r' hr
    refine ⟨_, hr, (fun r'' e => ?_), fun y' e => by cases e⟩
    cases e
    exact Option.some.inj h1
  · cases h1
end
theorem ranges_of {H : Type} {P : Program} {k : TypeId} {R : Value → Option (DataW H × List MemPlace)} {w w' : World} {b r n : Nat} {D : DataW H} {left : Lit → Bool} {cnt : Nat} (h : w.ranges P k R b r n D left cnt) (h1 : w'.heap[b]? = w.heap[b]?) (h2 : w'.heap[r]? = w.heap[r]?) : w'.ranges P k R b r n D left cnt := by
  obtain ⟨es, clock, since, seen, c0, hb, F, hs, hD, hr, rest⟩ := h
  exact ⟨es, clock, since, seen, c0, h1.trans hb, F, hs, hD, h2.trans hr, rest⟩
theorem ranges_obj {H : Type} {P : Program} {k : TypeId} {R : Value → Option (DataW H × List MemPlace)} {w : World} {b r n : Nat} {D : DataW H} {left : Lit → Bool} {cnt : Nat} (h : w.ranges P k R b r n D left cnt) : ∃ since seen c0, w.heap[r]? = some (.mapIter (some b) since seen c0) := by
  obtain ⟨es, clock, since, seen, c0, hb, F, hs, hD, hr, rest⟩ := h
  exact ⟨since, seen, c0, hr⟩
theorem entry_of {P : Program} {w w' : World} {b r : Nat} {v : Value} {since : Nat} {seen : Array Nat} {c0 : Nat} {es : Array MapEntry} {clock : Nat} (hb : w.heap[b]? = some (.map es clock)) (hr : w.heap[r]? = some (.mapIter (some b) since seen c0)) (hb' : w'.heap[b]? = some (.map es clock)) (hr' : w'.heap[r]? = some (.mapIter (some b) since seen c0))
    (h : (Instr.entry (.pointer (some ⟨r, 0, none⟩))).run P w = .ok v w) : (Instr.entry (.pointer (some ⟨r, 0, none⟩))).run P w' = .ok v w' := by
  simp only [Instr.entry, getObj, Sem.run_bind, Sem.run, hr, hb, Result.andThen] at h
  simp only [Instr.entry, getObj, Sem.run_bind, Sem.run, hr', hb', Result.andThen]
  revert h
  cases seen.back? with
  | none => intro h; simp [stuck, Sem.run] at h
  | some st =>
    simp only [Sem.run_bind, Sem.run, hr, hb, hr', hb', Result.andThen]
    split
    · intro h; simp [unsupported, Sem.run] at h
    · cases es.find? (fun x => x.born == st) with
      | none => intro h; simp [unsupported, Sem.run] at h
      | some e =>
        intro h
        simp only [Sem.run_pure, Result.ok.injEq, and_true] at h ⊢
        exact h
section
variable {P : Program} {w : World} {A : Nat → Prop} {M : BMap} {base : Nat} {Q : DX → DS → Prop} {s : DS}
theorem T_pinMap {c : Code} (id : Nat) {Q' : Program} {k e : TypeId} {m : DataW Unit} (hl : s.bx.lookup id = some (.map Q' k e m))
    (h : ∀ (b : Nat) (o : Obj), (∀ w : World, w.heap[b]? = some o → ∃ n, w.ownsMap Q' k (plainElem Q' e) b n m) → T P base c Q (s.setBox id (.obj (pin b (.map (some b)) o)))) : T P base c Q s := by
  intro E M w a hE hst
  have hm := lookup_mem hl
  obtain ⟨g1, n, es, clock, g2, g3⟩ := hst.boxes.ok id _ hm
  refine h (M.blk id) (.map es clock) (fun w' hw' => ⟨n, es, clock, hw', g3⟩) E M w a hE ?_
  exact hst.setBox (b := .obj (pin (M.blk id) (.map (some (M.blk id))) (.map es clock))) hm rfl ⟨rfl, rfl, rfl, Nat.le_refl _, fun _ _ _ => rfl⟩ fun A' _ => ⟨_, g2, rfl, rfl, g1, rfl⟩
theorem le_unpinMap (id : Nat) {Q' : Program} {k e : TypeId} {m : DataW Unit} {b : Nat} {o : Obj} (hl : s.bx.lookup id = some (.obj (pin b (.map (some b)) o)))
    (ho : ∀ w : World, w.heap[b]? = some o → ∃ n, w.ownsMap Q' k (plainElem Q' e) b n m) : s.LeB base (s.setBox id (.map Q' k e m)) := by
  intro E M w a hE hst
  have hm := lookup_mem hl
  obtain ⟨o', g1, _, hb, hv, rfl⟩ := hst.boxes.ok id _ hm
  refine ⟨M, ?_⟩
  refine hst.setBox (b := .map Q' k e m) hm rfl ⟨rfl, rfl, rfl, Nat.le_refl _, fun _ _ _ => rfl⟩ fun A' _ => ?_
  rw [hb] at g1
  exact ⟨by rw [hb]; exact hv, by rw [hb]; exact ho w g1⟩
/-- The invariant is a family of states; the arrival may write its state otherwise. -/
theorem T_loopI {c : Code} {α : Type} (st : α → DS) (I : α → Prop) (μ : α → Nat) (x0 : α) (h0 : I x0)
    (h : ∀ x, I x → T P base c (DX.andThen (fun s' => ∃ y, I y ∧ μ y < μ x ∧ s'.LeB base (st y)) Q) (st x)) : T P base (.loop c) Q (st x0) := by
  intro E M w a hb hs b k cs
  have key : ∀ n x, μ x = n → I x → ∀ E1, EnvExt E E1 → ∀ M w a, St E1 M w a (st x) →
      ∃ e a' w', Lift E Q e a' w' ∧ Arrives P (lone (b.at a (.code c :: .inLoop c :: k)) cs w) b k cs e a' w' := by
    intro n
    induction n using Nat.strongRecOn with
    | _ n ih =>
      intro x hn hx E1 hext M w a hst
      obtain ⟨e, a1, w1, hq, harr⟩ := h x hx E1 M w a (hext.base.trans hb) hst b (.inLoop c :: k) cs
      obtain ⟨E2, hext2, dx, s', M', hx', hq, hst'⟩ := hq
      have hx12 := hext.trans hext2
      cases dx with
      | normal =>
        cases e <;> simp only [XRel] at hx'
        obtain ⟨y, hy, hlt, hle⟩ := hq
        obtain ⟨M'', hst''⟩ := hle E2 M' w1 a1 (hx12.base.trans hb) hst'
        obtain ⟨e2, a2, w2, hq2, harr2⟩ := ih (μ y) (hn ▸ hlt) y rfl hy E2 hx12 M'' w1 a1 hst''
        exact ⟨e2, a2, w2, hq2, .of_steps (Steps.trans harr (.one step_inLoop)) harr2⟩
      | exit id =>
        cases e <;> simp only [XRel] at hx'
        subst hx'
        exact ⟨.exit _, a1, w1, ⟨E2, hx12, .exit _, s', M', rfl, hq, hst'⟩, .pass (x := .inLoop c) rfl (fun _ _ => .inl (by simp)) harr⟩
      | ret =>
        cases e <;> simp only [XRel] at hx'
        exact ⟨.ret, a1, w1, ⟨E2, hx12, .ret, s', M', trivial, hq, hst'⟩, .pass (x := .inLoop c) rfl (fun _ _ => .inl (by simp)) harr⟩
      | panic d =>
        cases e <;> simp only [XRel] at hx'
        exact ⟨.panic _, a1, w1, ⟨E2, hx12, .panic d, s', M', hx', hq, hst'⟩, .pass (x := .inLoop c) rfl (fun _ _ => .inl (by simp)) harr⟩
  obtain ⟨e, a', w', hq, harr⟩ := key _ x0 rfl h0 E (EnvExt.refl E) M w a hs
  exact ⟨e, a', w', hq, .of_steps (.one step_loop) harr⟩
/-- 'for x := range m' begins. -/
theorem TL_rangeS {ops : Array Oper} {o : Oper} {rest : List Oper} (t k e : TypeId) (d idm idr : Nat) (m : Operand) (b : Nat) (om : Obj) (l : List Int) (hop : o.op = .range t m) (hd : o.dst = some d) (hg : o.guard = none) (hu : P.underlying t = some (.map k e)) (hk : P.underlying k = some (.int .i64))
    (hm : s.ev m = .one (.own idm)) (hl : s.bx.lookup idm = some (.obj (pin b (.map (some b)) om))) (hom : ∀ w : World, w.heap[b]? = some om → ∃ n, w.ownsMap P k (plainElem P e) b n (mapS l)) (hb : Nat.ble base idr = true)
    (h : TL P base ops rest Q (((s.drop idr).push idr (.obj (ItOK P k e b om l))).put (some d) (.one (.ref idr 0)))) : TL P base ops (o :: rest) Q s := by
  refine TL_estep hg _ (fun E M w a hE hst => ?_) h
  have rm := ev_rel hst.size hst.slots m
  rw [hm] at rm
  simp only [LV.rel, C.rel] at rm
  obtain ⟨ob, g1, _, hbm, g2, rfl⟩ := hst.boxes.ok idm _ (lookup_mem hl)
  rw [hbm] at g1
  obtain ⟨n, hown⟩ := hom w g1
  obtain ⟨es, clock, hbk, F, hs, hD⟩ := hown
  have hobj : ob = .map es clock := by rw [g1] at hbk; exact Option.some.inj hbk
  have hr : (execOp a.eval o).run P w = .ok (.value (.pointer (some ⟨w.heap.size, 0, none⟩))) (w.alloc (.mapIter (some b) clock #[] clock)) := by
    simp [execOp, hop, rm, g2, run_range_map w t k e b es clock hu hbk]
  refine EStep.of_run (M' := M.upd idr w.heap.size undef 0) hr ?_
  rw [hd]
  refine St.put ?_ (some d) (by simp [LV.rel, C.rel, BMap.upd])
  refine StA.push (hst.toA.drop idr w.heap.size undef 0) drop_free (by rw [hE]; exact Nat.le_of_ble_eq_true hb) (row := none) (World.grownBy_alloc w _ none) (fun k hk => by cases hk) (fun b hb => Av_drop hb) (fun k hk => ?_) fun A' _ => ?_
  · simp only [boxBlk, BMap.upd, if_true, Option.some.injEq] at hk
    subst hk
    exact ⟨.inr (Nat.le_refl _), by simp⟩
  · have hlt : b < w.heap.size := (Array.getElem?_eq_some_iff.1 g1).1
    have hnew : (w.alloc (.mapIter (some b) clock #[] clock)).heap[w.heap.size]? = some (.mapIter (some b) clock #[] clock) := (MapKept.heap_alloc w _).1
    refine ⟨.mapIter (some b) clock #[] clock, by simp only [BMap.upd, if_true]; exact hnew, rfl, ?_⟩
    simp only [BMap.upd, if_true]
    refine ⟨by omega, fun w2 h1 h2 => ?_⟩
    obtain ⟨w', hrun, hrg, hgr, _⟩ := (show w.ownsMap P k (plainElem (H := Unit) P e) b n (mapS l) from ⟨es, clock, hbk, F, hs, hD⟩).range (int_keyed hk) hu
    rw [run_range_map w t k e b es clock hu hbk] at hrun
    cases hrun
    refine ⟨n, _, _, l, ranges_of hrg (h1.trans ?_) (h2.trans hnew.symm), fun x => ?_⟩
    · rw [hobj]; exact (((MapKept.heap_alloc w _).2 b hlt).trans hbk).symm
    · have e1 : ∀ l : List Int, (Maps.has (H := Unit) (mapS l) (.int .i64 x) = true ↔ x ∈ l) := by
        intro l
        simp only [mapS, Maps.has, List.any_eq_true, List.mem_map]
        constructor
        · rintro ⟨p, ⟨y, hy, rfl⟩, h2⟩
          simp only [Lit.sameKey, true_and, decide_eq_true_eq] at h2
          rw [← h2]; exact hy
        · intro hx
          exact ⟨_, ⟨x, hx, rfl⟩, by simp [Lit.sameKey]⟩
      exact e1 l
/-- One step: nothing is left, or another number has come. -/
theorem TL_nextS {ops : Array Oper} {o : Oper} {rest : List Oper} (k e : TypeId) (idm idr : Nat) (it : Operand) (b : Nat) (om : Obj) (R : List Int) (hop : o.op = .next it false) (hg : o.guard = none) (hk : P.underlying k = some (.int .i64))
    (hi : s.ev it = .one (.ref idr 0)) (hlm : s.bx.lookup idm = some (.obj (pin b (.map (some b)) om))) (hlr : s.bx.lookup idr = some (.obj (ItOK P k e b om R)))
    (hdone : R = [] → TL P base ops rest Q (s.put o.dst (.tup [(false, [.dat (.bool false)])])))
    (hmore : ∀ x, x ∈ R → TL P base ops rest Q ((s.setBox idr (.obj (CurOK P k e b om (R.filter fun y => !(y == x)) x))).put o.dst (.tup [(false, [.dat (.bool true)]), (false, [.dat (.int .i64 x)]), (false, [.junk])]))) : TL P base ops (o :: rest) Q s := by
  intro E M w a hE hst
  refine wpList_plain hg fun K hK => ?_
  have ri := ev_rel hst.size hst.slots it
  rw [hi] at ri
  simp only [LV.rel, C.rel] at ri
  obtain ⟨ob, g1, _, hbm, g2, rfl⟩ := hst.boxes.ok idm _ (lookup_mem hlm)
  rw [hbm] at g1
  have hmr := lookup_mem hlr
  obtain ⟨oi, k1, _, hne, hit⟩ := hst.boxes.ok idr _ hmr
  obtain ⟨n, left, cnt, l, hrg, hleft⟩ := hit w g1 k1
  unfold Oper.wp
  rcases hrg.next (int_keyed hk) o.type with ⟨h0, hl, hrun⟩ | ⟨key, v, kl, y, w', cnt', hkey, hlk, hv, hat, hrun, hrg', hlt, hgr, hsz, hen⟩
  · have hR : R = [] := by
      cases R with
      | nil => rfl
      | cons x R =>
        have := (hleft x).2 (by simp)
        rw [hl] at this; cases this
    simp [execOp, hop, ri, hrun, Result.andThen]
    refine hK _ _ (hdone hR E M w _ hE (hst.put o.dst ?_))
    exact ⟨_, rfl, rfl, fun j p hj => by match j, hj with | 0, hj => simp at hj; subst hj; exact ⟨_, rfl, .bool _⟩ | j + 1, hj => simp at hj⟩
  · obtain ⟨x, rfl, rfl, hwx⟩ := keyOf_int_inv hk hkey
    simp [execOp, hop, ri, hrun, Result.andThen]
    have hxR := (hleft x).1 hlk
    obtain ⟨since, seen, c0, hobj⟩ := ranges_obj hrg'
    have hbw' : w'.heap[b]? = some ob := by
      have hblt : b < w.heap.size := (Array.getElem?_eq_some_iff.1 g1).1
      rw [hgr.block b hblt (by intro e; exact hne (Option.some.inj e).symm)]; exact g1
    have hrg2 := hrg'
    obtain ⟨es, clock, since', seen', c0', hbm', F', hs', hD', hr', rest'⟩ := hrg'
    have hsame : ob = .map es clock := by rw [hbw'] at hbm'; exact Option.some.inj hbm'
    refine hK _ _ (hmore x hxR E M w' _ hE (St.put ?_ o.dst ?_))
    · refine hst.setBox (b := .obj (CurOK P k e b ob (R.filter fun y => !(y == x)) x)) hmr rfl (by simpa [boxBlk] using hgr) fun A' _ => ⟨_, hr', rfl, ⟨hne, fun w2 q1 q2 => ?_⟩, fun w2 q1 q2 => ?_⟩
      · refine ⟨n, _, _, l, ranges_of hrg2 (q1.trans hbw'.symm) (q2.trans hr'.symm), fun z => ?_⟩
        rw [Bool.and_eq_true, hleft z, List.mem_filter]
        refine and_congr_right fun _ => ?_
        simp only [Lit.sameKey, true_and, Bool.not_eq_true', beq_eq_false_iff_ne, decide_eq_false_iff_not]
      · rw [hsame] at q1
        exact ⟨v, entry_of hbm' hr' q1 q2 hen⟩
    · exact ⟨_, rfl, rfl, fun j p hj => by
        match j, hj with
        | 0, hj => simp at hj; subst hj; exact ⟨_, rfl, .bool _⟩
        | 1, hj => simp at hj; subst hj; exact ⟨_, rfl, .int _ _⟩
        | 2, hj => simp at hj; subst hj; exact ⟨_, rfl, trivial⟩
        | j + 3, hj => simp at hj⟩
/-- The number that the iterator stands at. -/
theorem TL_entryS {ops : Array Oper} {o : Oper} {rest : List Oper} (k e : TypeId) (idm idr : Nat) (it : Operand) (b : Nat) (om : Obj) (R : List Int) (x : Int) (hop : o.op = .entry it) (hg : o.guard = none)
    (hi : s.ev it = .one (.ref idr 0)) (hlm : s.bx.lookup idm = some (.obj (pin b (.map (some b)) om))) (hlr : s.bx.lookup idr = some (.obj (CurOK P k e b om R x)))
    (h : TL P base ops rest Q ((s.setBox idr (.obj (ItOK P k e b om R))).put o.dst (.tup [(false, [.dat (.int .i64 x)]), (false, [.junk])]))) : TL P base ops (o :: rest) Q s := by
  refine TL_estep hg _ (fun E M w a hE hst => ?_) h
  have ri := ev_rel hst.size hst.slots it
  rw [hi] at ri
  simp only [LV.rel, C.rel] at ri
  obtain ⟨ob, g1, _, hbm, g2, rfl⟩ := hst.boxes.ok idm _ (lookup_mem hlm)
  rw [hbm] at g1
  have hmr := lookup_mem hlr
  obtain ⟨oi, k1, kb, k2, k3⟩ := hst.boxes.ok idr _ hmr
  obtain ⟨y, hrun⟩ := k3 w g1 k1
  have hr : (execOp a.eval o).run P w = .ok (.value (.tuple #[.int .i64 x, y])) w := by
    simp [execOp, hop, ri, hrun]
  refine EStep.of_run (M' := M) hr (St.put ?_ o.dst ?_)
  · exact hst.setBox (b := .obj (ItOK P k e b ob R)) hmr rfl ⟨rfl, rfl, rfl, Nat.le_refl _, fun _ _ _ => rfl⟩ fun A' _ => ⟨oi, k1, kb, k2⟩
  · exact ⟨_, rfl, rfl, fun j p hj => by
      match j, hj with
      | 0, hj => simp at hj; subst hj; exact ⟨_, rfl, .int _ _⟩
      | 1, hj => simp at hj; subst hj; exact ⟨_, rfl, trivial⟩
      | j + 2, hj => simp at hj⟩
end
end Go.DL

/-
  The plain data of chapter 39, and how it is laid as data of the framework; the plain functions that the code computes.
-/
set_option linter.unusedVariables false
set_option linter.unusedSimpArgs false
namespace Go.Proofs.Ytoiiblkncbnlaaa
open Go.DL
structure Pay where
  c : Int
  a : Int
  deriving DecidableEq
structure Hold where
  t : Int
  p : Int
  ps : List Pay
  s : Int
  deriving DecidableEq
structure House where
  b : List Pay
  h : List Hold
  deriving DecidableEq
def encI (n : Int) : D := .int .i64 n
def encPay (p : Pay) : D := .agg [.int .i64 p.c, .int .i64 p.a]
theorem encI_one (l : List Int) : cellsOne (l.map encI) := by
  intro d hd c hc; obtain ⟨x, _, rfl⟩ := List.mem_map.1 hd; simp [encI, D.cells] at hc; subst hc; rfl
theorem encPay_one (l : List Pay) : cellsOne (l.map encPay) := by
  intro d hd c hc; obtain ⟨x, _, rfl⟩ := List.mem_map.1 hd; simp [encPay, D.cells] at hc; rcases hc with rfl | rfl <;> rfl
theorem drop_cons {α : Type} {l : List α} {k : Nat} {p : α} (h : l[k]? = some p) : l.drop k = p :: l.drop (k + 1) := by
  obtain ⟨hlt, rfl⟩ := List.getElem?_eq_some_iff.1 h
  exact List.drop_eq_getElem_cons hlt
theorem take_snoc {α : Type} {l : List α} {k : Nat} {p : α} (h : l[k]? = some p) : l.take (k + 1) = l.take k ++ [p] := by
  rw [List.take_add_one, h]; rfl

/-- The sum of payments, as the code forms it: with the machine's own wrap. -/
def sumFrom (n : Int) : List Pay → Int
  | [] => n
  | p :: l => sumFrom (IntKind.i64.wrap (n + p.a)) l

/-- The sum of the holds that are held, on top of n. -/
def heldFrom (n : Int) : List Hold → Int
  | [] => n
  | x :: l => heldFrom (if x.s = 1 then IntKind.i64.wrap (n + sumFrom 0 x.ps) else n) l
def total (h : House) : Int := heldFrom (sumFrom 0 h.b) h.h

/-- Clubs behind p, increasing. -/
def incFrom (p : Int) : List Int → Bool
  | [] => true
  | c :: l => if c < 0 ∨ c ≥ 192 ∨ c ≤ p then false else incFrom c l
def areClubs (l : List Int) : Bool := incFrom (-1) l && decide (0 < l.length)

/-- The binary search of the library: the place between i and j. -/
def bs (ks : List Int) (key : Int) (i j : Nat) : Nat :=
  if i < j then if ks.getD ((i + j) / 2) 0 < key then bs ks key ((i + j) / 2 + 1) j else bs ks key i ((i + j) / 2) else i
termination_by j - i
decreasing_by all_goals omega
def bsAt (ks : List Int) (key : Int) : Nat := bs ks key 0 ks.length
def bsMet (ks : List Int) (key : Int) : Bool := decide (ks[bsAt ks key]? = some key)

/-! ### validity -/
/-- Is the number not behind the one before? -/
def notBehind (c : Int) : Option Int → Bool
  | none => false
  | some q => decide (c ≤ q)
def payLoop (has : Int → Bool) (p : Option Int) (n : Int) : List Pay → Bool
  | [] => decide (n ≤ 1125899906842624)
  | x :: l => if has x.c = false ∨ x.a < 1 ∨ x.a > 1125899906842624 ∨ notBehind x.c p = true then false else payLoop has (some x.c) (IntKind.i64.wrap (n + x.a)) l
def paysOK (has : Int → Bool) (l : List Pay) : Bool := if l.length > 64 then false else payLoop has none 0 l
def hasB (h : House) (c : Int) : Bool := bsMet (h.b.map (·.c)) c
def holdOK (has : Int → Bool) (p : Option Int) (x : Hold) : Bool :=
  decide (x.t ≥ 1) && (decide (x.t ≤ 4096) && (!notBehind x.t p && (has x.p && (paysOK has x.ps && (decide (x.s ≥ 1) && decide (x.s ≤ 3))))))
def holdsFrom (has : Int → Bool) (p : Option Int) : List Hold → Bool
  | [] => true
  | x :: l => holdOK has p x && holdsFrom has (some x.t) l
def amountsOK : List Pay → Bool
  | [] => true
  | x :: l => if x.a < 0 ∨ x.a > 1125899906842624 then false else amountsOK l
def checkWith (has : House → Int → Bool) (h : House) : Bool :=
  decide (h.b.length ≤ 192) && (decide (h.h.length ≤ 4096) && (amountsOK h.b && (areClubs (h.b.map (·.c)) && (holdsFrom (has h) none h.h && decide (total h ≤ 1125899906842624)))))
def check (h : House) : Int := if checkWith hasB h = true then 0 else 1
section
variable {has : House → Int → Bool} {h : House}
end

/-! ### houses -/
structure Step where
  k : Int
  c : Int
  a : Int
  t : Int
  ps : List Pay
  pd : Bool
  deriving DecidableEq
def mid (f : Pay → Pay) (b : List Pay) (i : Nat) (y : Pay) : List Pay := (b.take i).map f ++ y :: b.drop (i + 1)
/-- What one payment makes of balances, by the search. -/
def give (m : List Pay) (p : Pay) : List Pay :=
  match m[bsAt (m.map (·.c)) p.c]? with
  | some e => if bsMet (m.map (·.c)) p.c = true then m.set (bsAt (m.map (·.c)) p.c) ⟨e.c, IntKind.i64.wrap (e.a + p.a)⟩ else m
  | none => m
def cred (m : List Pay) : List Pay → List Pay
  | [] => m
  | p :: ps => cred (give m p) ps
/-! ### the three movements -/
def none0 : House := ⟨[], []⟩
def paid (h : House) (c a : Int) : House × Int :=
  if check h ≠ 0 then (none0, check h)
  else if hasB h c = false ∨ a < 1 ∨ a > 1125899906842624 then (none0, 1)
  else if IntKind.i64.wrap (total h + a) > 1125899906842624 then (none0, 2)
  else (⟨cred h.b [⟨c, a⟩], h.h⟩, 0)
/-! ### the reference's three movements -/
end Go.Proofs.Ytoiiblkncbnlaaa

/-
  The plain data of chapter 38 and what its functions compute. Conditions: those of each theorem.
-/
set_option linter.unusedVariables false
set_option linter.unusedSimpArgs false
namespace Go.Proofs.Ytoiiblkncbnlaaa
open Go.DL
structure Train where
  c : Int
  s : Int
  deriving DecidableEq
structure Fee where
  a : Int
  p : Int
  m : Int
  s : Int
  t : List Train
  deriving DecidableEq
structure Part where
  i : Int
  c : Int
  r : Int
  deriving DecidableEq
def encPart (p : Part) : D := .agg [.int .i64 p.i, .int .i64 p.c, .int .i64 p.r]
def valPart (p : Part) : Value := .agg #[.int .i64 p.i, .int .i64 p.c, .int .i64 p.r]
theorem encPart_one (l : List Part) : cellsOne (l.map encPart) := by
  intro d hd c hc; obtain ⟨x, _, rfl⟩ := List.mem_map.1 hd; simp [encPart, D.cells] at hc; rcases hc with rfl | rfl | rfl <;> rfl
theorem part_rel (x : Part) (w : World) (A : Nat → Prop) (M : BMap) : LV.rel w A M (.agg [.dat (I x.i), .dat (I x.c), .dat (I x.r)]) (valPart x) := by
  refine ⟨_, rfl, rfl, fun j c hj => ?_⟩
  match j with
  | 0 => cases hj; exact ⟨_, rfl, .int _ _⟩
  | 1 => cases hj; exact ⟨_, rfl, .int _ _⟩
  | 2 => cases hj; exact ⟨_, rfl, .int _ _⟩
  | n + 3 => simp at hj

def chkM (n : Int) : Int := if n > 1125899906842624 ∨ n < -1125899906842624 then 50 else 0
def headOK (f : Fee) : Prop := 0 ≤ f.a ∧ f.a ≤ 1125899906842624 ∧ 0 ≤ f.p ∧ f.p ≤ 1125899906842624 ∧ ((0 ≤ f.m ∧ f.m < 192) ∨ (f.m = -1 ∧ f.s = 0)) ∧ 0 ≤ f.s ∧ f.s ≤ 1000 ∧ f.t.length ≤ 40
instance (f : Fee) : Decidable (headOK f) := by unfold headOK; infer_instance
theorem chkM_cases (n : Int) : (chkM n = 50 ∧ (n > 1125899906842624 ∨ n < -1125899906842624)) ∨ (chkM n = 0 ∧ n ≤ 1125899906842624 ∧ -1125899906842624 ≤ n) := by
  unfold chkM; split
  · exact .inl ⟨rfl, by assumption⟩
  · exact .inr ⟨rfl, by omega, by omega⟩
end Go.Proofs.Ytoiiblkncbnlaaa

/-
  Walks at the data level, printed by gen.py: what each Go function returns, for data that reads as said. Conditions: those of each theorem.
-/
namespace Go.Proofs.Ytoiiblkncbnlaaa
open Go.DL
set_option maxRecDepth 100000
set_option maxHeartbeats 4000000
set_option linter.unusedVariables false
set_option linter.unusedSimpArgs false
theorem ret_chkM (n : Int) : Ret Try.prog 51 [(I n)] (I (chkM n)) := by
  refine Ret.of_T Try.func51 (by kernel_rfl) rfl ?_
  refine T_turn [] [0] [] (mk 9 [(0, (dt (I n)))] []) (by kernel_rfl) ?_
  refine T_reg [] [0] [] (mk 9 [(0, (dt (I n)))] []) (True ∧ True ∧ True) (by kernel_rfl) ⟨trivial, trivial, trivial⟩ ?_
  refine T_seq ?_
  rcases Bool.eq_false_or_eq_true (decide (n > 1125899906842624)) with h1 | h1
  · skip
    have g2 : n > 1125899906842624 := of_decide_eq_true (h1)
    refine T_reg [{}, {}, {}, { g := false }, { g := false }, { d := some (B true) }] [8] [] (mk 9 [(8, (dt (B true)))] []) (True ∧ True ∧ True ∧ True ∧ True ∧ True ∧ (((decide (n > 1125899906842624)) == false) = false) ∧ (((decide (n > 1125899906842624)) == false) = false) ∧ True ∧ ((decide (n > 1125899906842624)) = true) ∧ True) (by kernel_rfl) ⟨trivial, trivial, trivial, trivial, trivial, trivial, (by rw [show (decide (n > 1125899906842624)) = true from h1]; rfl), (by rw [show (decide (n > 1125899906842624)) = true from h1]; rfl), trivial, h1, trivial⟩ ?_
    refine T_cond true (by kernel_rfl) (fun _ => ?_) (fun h => absurd (h.symm.trans rfl) (by decide))
    refine T_reg [] [2] [] (mk 9 [(2, (dt (I 50)))] []) (True ∧ True ∧ True) (by kernel_rfl) ⟨trivial, trivial, trivial⟩ ?_
    refine T_ret ?_
    exact ret_here [(dt (I 50))] (by kernel_rfl) (.inl (congrArg I (by first | (rw [chkM, if_pos (by omega)]; done) | (rw [chkM, if_neg (by omega)]; done) : 50 = (chkM n))))
  · skip
    have g3 : ¬ (n > 1125899906842624) := of_decide_eq_false (h1)
    refine T_reg [{}, {}, {}, {}, {}, { d := some (B false) }] [8] [] (mk 9 [(8, (dt (B (decide (n < (-1125899906842624))))))] []) (True ∧ True ∧ True ∧ True ∧ True ∧ True ∧ (((decide (n > 1125899906842624)) == false) = true) ∧ True ∧ (((decide (n > 1125899906842624)) == false) = true) ∧ True ∧ True ∧ ((decide (n > 1125899906842624)) = false) ∧ True) (by kernel_rfl) ⟨trivial, trivial, trivial, trivial, trivial, trivial, (by rw [show (decide (n > 1125899906842624)) = false from h1]; rfl), trivial, (by rw [show (decide (n > 1125899906842624)) = false from h1]; rfl), trivial, trivial, h1, trivial⟩ ?_
    refine T_cond (decide (n < (-1125899906842624))) (by kernel_rfl) (fun h4 => ?_) (fun h4 => ?_)
    · skip
      have g5 : n < (-1125899906842624) := of_decide_eq_true (h4)
      refine T_reg [] [2] [] (mk 9 [(2, (dt (I 50)))] []) (True ∧ True ∧ True) (by kernel_rfl) ⟨trivial, trivial, trivial⟩ ?_
      refine T_ret ?_
      exact ret_here [(dt (I 50))] (by kernel_rfl) (.inl (congrArg I (by first | (rw [chkM, if_pos (by omega)]; done) | (rw [chkM, if_neg (by omega)]; done) : 50 = (chkM n))))
    · skip
      have g6 : ¬ (n < (-1125899906842624)) := of_decide_eq_false (h4)
      refine T_skip ?_
      refine T_reg [] [2] [] (mk 9 [(2, (dt (I 0)))] []) (True ∧ True ∧ True) (by kernel_rfl) ⟨trivial, trivial, trivial⟩ ?_
      refine T_ret ?_
      exact ret_here [(dt (I 0))] (by kernel_rfl) (.inl (congrArg I (by first | (rw [chkM, if_pos (by omega)]; done) | (rw [chkM, if_neg (by omega)]; done) : 0 = (chkM n))))

end Go.Proofs.Ytoiiblkncbnlaaa

/-
  The plain law of money.Split: parts by rank. No conditions but those of each theorem.
-/
set_option linter.unusedVariables false
set_option linter.unusedSimpArgs false
namespace Go.Proofs.Ytoiiblkncbnlaaa
open Go.DL
def partAt (a sum : Int) (ws : List Int) (k : Nat) : Part := ⟨k, (a * ws.getD k 0).tdiv sum, (a * ws.getD k 0).tmod sum⟩
def partsOf (a sum : Int) (ws : List Int) : List Part := (List.range ws.length).map (partAt a sum ws)
theorem partsOf_take (a sum : Int) (ws : List Int) {k : Nat} (h : k < ws.length) : (List.range k).map (partAt a sum ws) ++ [partAt a sum ws k] <+: partsOf a sum ws := by
  refine ⟨((List.range ws.length).map (partAt a sum ws)).drop (k + 1), ?_⟩
  have : (List.range k).map (partAt a sum ws) ++ [partAt a sum ws k] = ((List.range ws.length).map (partAt a sum ws)).take (k + 1) := by
    rw [← List.map_take, List.take_range, Nat.min_eq_left (by omega), List.range_succ, List.map_append]; rfl
  rw [this, List.take_append_drop]; rfl
def vInt : Value → Int
  | .int _ q => q
  | _ => 0
/-- What is left of a, the parts of a list taken away. -/
def leftOf (a : Int) (l : List Part) : Int := l.foldl (fun n p => n - p.c) a
theorem leftOf_snoc (a : Int) (l : List Part) (x : Part) : leftOf a (l ++ [x]) = leftOf a l - x.c := by simp [leftOf]
/-- Parts of greater rest stand ahead; of those with one rest, the one of smaller index. -/
def ahead (p q : Part) : Bool := decide (q.r < p.r) || (decide (p.r = q.r) && decide (p.i < q.i))
def rank (l : List Part) (p : Part) : Nat := l.countP (fun q => ahead q p)
def splitW (a sum : Int) (ws : List Int) : List Int :=
  (partsOf a sum ws).map fun p => p.c + if (rank (partsOf a sum ws) p : Int) < leftOf a (partsOf a sum ws) then 1 else 0
end Go.Proofs.Ytoiiblkncbnlaaa

/-
  money.parts's iterator: what it yields. Conditions: those of the theorem.
-/
set_option linter.unusedVariables false
set_option linter.unusedSimpArgs false
namespace Go.Proofs.Ytoiiblkncbnlaaa
open Go.DL Go.RowKit Go.Shelf
attribute [local go_sem] Oper.semAt_some
set_option maxRecDepth 100000

theorem it3 : Try.prog.underlying 3 = some (TypeDesc.int IntKind.i64) := by kernel_rfl
theorem it22 : Try.prog.underlying 40 = some (TypeDesc.slice 3) := by kernel_rfl
theorem itmixed : Try.prog.follows .mixedOrders = true := by kernel_rfl

set_option maxHeartbeats 4000000 in
theorem parts_iter (a sum : Int) (ws : List Int) (hs : 0 < sum) (hs2 : sum ≤ 1000000) (ha : 0 ≤ a) (ha2 : a ≤ 1125899906842624) (hw : ∀ x ∈ ws, 0 ≤ x ∧ x ≤ 1000) (hl : ws.length ≤ 256) :
    Iter Try.prog 76 [.ptr [.sl 1 (ws.map encI)], .ptr [.int .i64 a], .ptr [.int .i64 sum]] valPart (partsOf a sum ws) := by
  refine ⟨enters_of Try.func76 (by kernel_rfl) rfl, ?_⟩
  intro w A lb hsz hcap l J hJK hJd hY W h0
  obtain ⟨v0, hv0, r0⟩ := hcap 0 _ rfl
  obtain ⟨v1, hv1, r1⟩ := hcap 1 _ rfl
  obtain ⟨v2, hv2, r2⟩ := hcap 2 _ rfl
  have hlb : lb = #[v0, v1, v2] := by
    apply Array.ext
    · simpa using hsz
    · intro i h1 h2
      simp only [List.length_cons, List.length_nil] at hsz
      match i, h1 with
      | 0, h1 => have := Array.getElem?_eq_getElem h1; rw [hv0] at this; simpa using (Option.some.inj this).symm
      | 1, h1 => have := Array.getElem?_eq_getElem h1; rw [hv1] at this; simpa using (Option.some.inj this).symm
      | 2, h1 => have := Array.getElem?_eq_getElem h1; rw [hv2] at this; simpa using (Option.some.inj this).symm
      | n + 3, h1 => omega
  subst hlb
  cases r0 with
  | ptr _ b0 o0 vs0 m0 q0 =>
  cases r1 with
  | ptr _ b1 o1 vs1 m1 q1 =>
  cases r2 with
  | ptr _ b2 o2 vs2 m2 q2 =>
  have c0 := m0 0 _ rfl
  have c1 := m1 0 _ rfl
  have c2 := m2 0 _ rfl
  have e0 := q0 0 _ rfl
  have e1 := relD_int (q1 0 _ rfl)
  have e2 := relD_int (q2 0 _ rfl)
  rw [e1] at c1
  rw [e2] at c2
  simp only [Nat.add_zero] at c0 c1 c2
  generalize vs0 0 = sv at c0 e0
  have g0 : ∀ pre W, J pre W → W.cell? ⟨b0, o0, none⟩ = some sv := fun pre W h => hJK pre W h _ _ _ c0.1 c0.2
  have g1 : ∀ pre W, J pre W → W.cell? ⟨b1, o1, none⟩ = some (.int .i64 a) := fun pre W h => hJK pre W h _ _ _ c1.1 c1.2
  have g2 : ∀ pre W, J pre W → W.cell? ⟨b2, o2, none⟩ = some (.int .i64 sum) := fun pre W h => hJK pre W h _ _ _ c2.1 c2.2
  have u3 := run_underlying (P := Try.prog) it3; have u22 := run_underlying (P := Try.prog) it22
  have mixed := itmixed
  -- the slice
  obtain ⟨ad, cap, hsv, hcell⟩ : ∃ (ad : Option Addr) (cap : Nat), sv = .slice ad ws.length cap ∧ ∀ k, k < ws.length → ∃ b off, ad = some ⟨b, off, none⟩ ∧ ∀ pre W, J pre W → W.cell? ⟨b, off + k, none⟩ = some (.int .i64 (ws.getD k 0)) := by
    generalize hes : ws.map encI = es at e0
    cases e0 with
    | sl _ _ b off cap vs hlen huni hmem hrel =>
      have hl' : es.length = ws.length := by rw [← hes, List.length_map]
      refine ⟨_, cap, by rw [hl'], fun k hk => ⟨b, off, rfl, fun pre W hJ => ?_⟩⟩
      have hfk : (flat es)[k]? = some (.int .i64 (ws.getD k 0)) := by
        have h1 : es[k]? = some (encI (ws.getD k 0)) := by rw [← hes, List.getElem?_map, List.getElem?_eq_getElem hk]; simp [List.getD, List.getElem?_eq_getElem hk]
        have := flat_get (sz := 1) huni h1 (j := 0) (c := .int .i64 (ws.getD k 0)) rfl
        simpa using this
      have h2 := hmem k _ hfk
      rw [relD_int (hrel k _ hfk)] at h2
      exact hJK pre W hJ _ _ _ h2.1 h2.2
    | sl0 _ ad cap _ =>
      have : ws = [] := by simpa using hes
      subst this
      exact ⟨ad, cap, rfl, fun k hk => by simp at hk⟩
  subst hsv
  have hg0 := g0 _ _ h0
  refine callsIn_of_wp Try.func76 rfl trivial ?_ rfl
  simp only [Try.ntmps76, List.size_toArray, List.length_cons, List.length_nil, Nat.reduceAdd, Nat.reduceSub, Array.replicate_succ, Array.replicate_zero, List.push_toArray, List.append_toArray, List.nil_append, List.cons_append]
  gi_wp2
  gi_loopw [9] (fun i wr => ∃ k : Nat, k ≤ ws.length ∧ i = .int .i64 k ∧ J ((List.range k).map (partAt a sum ws)) wr)
    (fun i _ => ws.length - (vInt i).toNat)
  case atStart => exact ⟨0, Nat.zero_le _, rfl, h0⟩
  case round =>
    obtain ⟨k, hk, rfl, hJs⟩ := hrel
    by_cases hlt : k < ws.length
    · obtain ⟨b, off, rfl, hc⟩ := hcell k hlt
      have hcx := hc _ _ hJs
      have h1x := g1 _ _ hJs
      have h2x := g2 _ _ hJs
      obtain ⟨x, hxe⟩ : ∃ x, x = ws.getD k 0 := ⟨_, rfl⟩
      have hxm : 0 ≤ x ∧ x ≤ 1000 := by
        have := hw (ws[k]) (List.getElem_mem hlt)
        rw [hxe]; simpa [List.getD, List.getElem?_eq_getElem hlt] using this
      rw [← hxe] at hcx
      have hax0 : 0 ≤ a * x := Int.mul_nonneg ha hxm.1
      have hax1 : a * x ≤ 1125899906842624 * 1000 := Int.le_trans (Int.mul_le_mul_of_nonneg_left hxm.2 ha) (Int.mul_le_mul_of_nonneg_right ha2 (by decide))
      have hws : IntKind.i64.wrap (a * x) = a * x := i64_wrap (by omega) (by omega)
      have hq0 : 0 ≤ (a * x).tdiv sum := Int.tdiv_nonneg hax0 (by omega)
      have hq1 : (a * x).tdiv sum ≤ a * x := by rw [Int.tdiv_eq_ediv_of_nonneg hax0]; exact Int.ediv_le_self _ hax0
      have hwq : IntKind.i64.wrap ((a * x).tdiv sum) = (a * x).tdiv sum := i64_wrap (by omega) (by omega)
      have hsn : ¬ (sum = 0) := by omega
      have hJd2 := hJd _ _ wr.drew hJs ((Below.refl _ wr).drew)
      have hpt : partAt a sum ws k = ⟨k, (a * x).tdiv sum, (a * x).tmod sum⟩ := by rw [partAt, hxe]
      obtain ⟨fn, tmps, assign, body, hy, hR⟩ := hY _ (partAt a sum ws k) wr.drew hJd2 (partsOf_take a sum ws hlt)
      rw [hpt] at hy hR
      simp only [valPart] at hy
      have hcd : wr.drew.cell? ⟨b1, o1, none⟩ = some (.int .i64 a) := h1x
      have hcd2 : wr.drew.cell? ⟨b2, o2, none⟩ = some (.int .i64 sum) := h2x
      clear hxe hc hcell g0 g1 g2 hxm hw
      gi_wp2
      gi_region_with_o (refine ⟨rfl, RoundIn.mono hR ?_⟩; rintro e W3 ⟨rfl, hJ3⟩)
      all_goals gi_wp2
      all_goals (refine ⟨⟨k + 1, by omega, by simp, ?_⟩, by simp [vInt]; omega⟩; rw [List.range_succ, List.map_append, List.map_singleton, hpt]; exact hJ3)
    · obtain rfl : k = ws.length := by omega
      gi_wp2
      go_end0
      exact ⟨⟨_, rfl⟩, hJs⟩
end Go.Proofs.Ytoiiblkncbnlaaa

/-
  The plain law of money.Split, first part: what the walk of its code needs. Conditions: those of each theorem.
-/
set_option linter.unusedVariables false
set_option linter.unusedSimpArgs false
namespace Go.Proofs.Ytoiiblkncbnlaaa
open Go.DL
def sumL (n : Int) : List Int → Int
  | [] => n
  | x :: l => sumL (n + x) l
theorem sumL_nil (ws : List Int) : ws.length ≠ 0 ∨ sumL 0 ws = 0 := by
  cases ws with
  | nil => exact .inr rfl
  | cons x l => exact .inl (by simp)
theorem sumL_end {ws : List Int} {n : Int} {k : Nat} (iv : sumL n (ws.drop k) = sumL 0 ws) (h : ws.length ≤ k) : n = sumL 0 ws := by
  rw [List.drop_eq_nil_of_le h] at iv; exact iv
theorem partsOf_length (a s : Int) (ws : List Int) : (partsOf a s ws).length = ws.length := by simp [partsOf]
theorem prefix_mem {α : Type} {pre xs : List α} {x : α} (h : pre ++ [x] <+: xs) : x ∈ xs := h.subset (by simp)
theorem prefix_len {α : Type} {pre xs : List α} {x : α} (h : pre ++ [x] <+: xs) : pre.length + 1 ≤ xs.length := by have := h.length_le; simpa using this
theorem getD_mem {ws : List Int} {k : Nat} (h : k < ws.length) : ws.getD k 0 ∈ ws := by
  simp only [List.getD, List.getElem?_eq_getElem h, Option.getD_some]; exact List.getElem_mem h
theorem sumL_add (l : List Int) : ∀ n m : Int, sumL (n + m) l = sumL n l + m := by
  induction l with
  | nil => intro n m; rfl
  | cons x l ih => intro n m; simp only [sumL]; rw [show n + m + x = (n + x) + m by omega, ih]
theorem sumL_nonneg {l : List Int} (h : ∀ x ∈ l, 0 ≤ x) : 0 ≤ sumL 0 l := by
  induction l with
  | nil => exact Int.le_refl _
  | cons x l ih =>
    have h1 := ih fun y hy => h y (by simp [hy])
    have h2 := h x (by simp)
    have e : sumL 0 (x :: l) = sumL 0 l + x := by simp only [sumL]; exact sumL_add l 0 x
    omega
theorem le_sumL {l : List Int} (h : ∀ x ∈ l, 0 ≤ x) {x : Int} (hx : x ∈ l) : x ≤ sumL 0 l := by
  induction l with
  | nil => cases hx
  | cons y l ih =>
    have h1 : ∀ x ∈ l, 0 ≤ x := fun z hz => h z (by simp [hz])
    have e : sumL 0 (y :: l) = sumL 0 l + y := by simp only [sumL]; exact sumL_add l 0 y
    have h2 := sumL_nonneg h1
    have h3 := h y (by simp)
    rcases List.mem_cons.1 hx with rfl | hx
    · omega
    · have := ih h1 hx; omega
theorem part_bounds2 {a s : Int} {ws : List Int} (ha : 0 ≤ a) (ha2 : a ≤ 1125899906842624) (hs : 0 < s) (hw : ∀ x ∈ ws, 0 ≤ x ∧ x ≤ 1000) (hl : ws.length ≤ 256) (hws : ∀ x ∈ ws, x ≤ s) {x : Part} (hx : x ∈ partsOf a s ws) :
    0 ≤ x.i ∧ x.i < ws.length ∧ 0 ≤ x.c ∧ x.c ≤ 1125899906842624 ∧ 0 ≤ x.r ∧ x.r < s := by
  simp only [partsOf, List.mem_map, List.mem_range] at hx
  obtain ⟨k, hk, rfl⟩ := hx
  have h1 := hw _ (getD_mem hk)
  have h2 : 0 ≤ a * ws.getD k 0 := Int.mul_nonneg ha h1.1
  have h3 : a * ws.getD k 0 ≤ a * s := Int.mul_le_mul_of_nonneg_left (hws _ (getD_mem hk)) ha
  simp only [partAt]
  generalize a * ws.getD k 0 = m at h2 h3
  rw [Int.tdiv_eq_ediv_of_nonneg h2, Int.tmod_eq_emod_of_nonneg h2]
  have h4 := Int.ediv_nonneg h2 (Int.le_of_lt hs)
  have h5 := Int.ediv_le_of_le_mul hs h3
  have h6 := Int.emod_nonneg m (Int.ne_of_gt hs)
  have h7 := Int.emod_lt_of_pos m hs
  omega
/-- Parts of indices among those of a list. -/
theorem leftOf_low (l : List Part) : ∀ a b : Int, (∀ x ∈ l, 0 ≤ x.c ∧ x.c ≤ b) → a - b * l.length ≤ leftOf a l ∧ leftOf a l ≤ a := by
  induction l with
  | nil => intro a b _; simp [leftOf]
  | cons x l ih =>
    intro a b h
    have h1 := ih (a - x.c) b (fun y hy => h y (by simp [hy]))
    have h2 := h x (by simp)
    have e : leftOf a (x :: l) = leftOf (a - x.c) l := rfl
    rw [e]
    simp only [List.length_cons, Int.natCast_add, Int.natCast_one, Int.mul_add, Int.mul_one]
    omega
theorem leftOf_bounds {a s : Int} {ws : List Int} (ha : 0 ≤ a) (ha2 : a ≤ 1125899906842624) (hs : 0 < s) (hw : ∀ x ∈ ws, 0 ≤ x ∧ x ≤ 1000) (hl : ws.length ≤ 256) (hws : ∀ x ∈ ws, x ≤ s) {pre : List Part} (h : pre <+: partsOf a s ws) :
    -1125899906842624 * 256 ≤ leftOf a pre ∧ leftOf a pre ≤ 1125899906842624 := by
  have h1 := leftOf_low pre a 1125899906842624 (fun x hx => by have := part_bounds2 ha ha2 hs hw hl hws (h.subset hx); omega)
  have h2 := h.length_le
  rw [partsOf_length] at h2
  omega
theorem parts_ne {a s : Int} {ws : List Int} (hs : 0 < sumL 0 ws) : partsOf a s ws ≠ [] := by
  intro e
  have h1 := congrArg List.length e
  rw [partsOf_length] at h1
  have h2 := sumL_nil ws
  simp at h1
  subst h1
  simp [sumL] at hs
/-- A sorted order of parts. -/
def sortR (d d' : List Part) : Prop := d'.Perm d ∧ d'.Pairwise fun p q => ahead q p = false
theorem parts_nodup (a s : Int) (ws : List Int) : ((partsOf a s ws).map (·.i)).Nodup := by
  have : (partsOf a s ws).map (·.i) = (List.range ws.length).map fun k : Nat => (k : Int) := by
    simp only [partsOf, List.map_map]; rfl
  rw [this]
  exact List.Pairwise.map _ (fun a b h e => h (by omega)) List.nodup_range
theorem sorted_nodup {a s : Int} {ws : List Int} {d : List Part} (h : sortR (partsOf a s ws) d) : (d.map (·.i)).Nodup := (h.1.map _).nodup_iff.2 (parts_nodup a s ws)
theorem nodup_ne {d : List Part} (h : (d.map (·.i)).Nodup) {j k : Nat} {x y : Part} (hj : d[j]? = some x) (hk : d[k]? = some y) (hne : j ≠ k) : x.i ≠ y.i := by
  intro e
  have h1 : (d.map (·.i))[j]? = some x.i := by rw [List.getElem?_map, hj]; rfl
  have h2 : (d.map (·.i))[k]? = some x.i := by rw [List.getElem?_map, hk, e]; rfl
  obtain ⟨l1, e1⟩ := List.getElem?_eq_some_iff.1 h1
  obtain ⟨l2, e2⟩ := List.getElem?_eq_some_iff.1 h2
  have hp := List.pairwise_iff_getElem.1 (show List.Pairwise (· ≠ ·) (d.map (·.i)) from h)
  rcases Nat.lt_or_gt_of_ne hne with h3 | h3
  · exact hp j k l1 l2 h3 (e1.trans e2.symm)
  · exact hp k j l2 l1 h3 (e2.trans e1.symm)
/-- What the first k of the sorted parts have been given. -/
def Filled (L : Int) (d : List Part) (k : Nat) (cs : List Int) : Prop := ∀ j x, j < k → d[j]? = some x → cs[x.i.toNat]? = some (x.c + if (j : Int) < L then 1 else 0)
theorem fill_start (L : Int) (d : List Part) (cs : List Int) : Filled L d 0 cs := fun j x h => absurd h (Nat.not_lt_zero j)
theorem fill_set {L : Int} {d : List Part} {k : Nat} {cs : List Int} (h : Filled L d k cs) (hn : (d.map (·.i)).Nodup) (h0 : ∀ x ∈ d, 0 ≤ x.i) {x : Part} (hx : d[k]? = some x) (v : Int) : Filled L d k (cs.set x.i.toNat v) := by
  intro j y hj hy
  have hne := nodup_ne hn hy hx (by omega)
  have h1 := h0 x (List.mem_of_getElem? hx)
  have h2 := h0 y (List.mem_of_getElem? hy)
  rw [List.getElem?_set_ne (by omega)]
  exact h j y hj hy
theorem fill_put {L : Int} {d : List Part} {k : Nat} {cs : List Int} (h : Filled L d k cs) {x : Part} (hx : d[k]? = some x) (hc : cs[x.i.toNat]? = some (x.c + if (k : Int) < L then 1 else 0)) : Filled L d (k + 1) cs := by
  intro j y hj hy
  by_cases e : j = k
  · subst e; rw [hx] at hy; cases hy; exact hc
  · exact h j y (by omega) hy
theorem sorted_mem {a s : Int} {ws : List Int} {d : List Part} (h : sortR (partsOf a s ws) d) {x : Part} (hx : x ∈ d) : 0 ≤ x.i ∧ x.i < ws.length := by
  have := h.1.mem_iff.1 hx
  simp only [partsOf, List.mem_map, List.mem_range] at this
  obtain ⟨k, hk, rfl⟩ := this
  simp only [partAt]; omega
theorem fill_more {a s L : Int} {ws : List Int} {d : List Part} {k : Nat} {cs : List Int} (h : Filled L d k cs) (hR : sortR (partsOf a s ws) d) {x : Part} (hx : d[k]? = some x) (hc : cs.length = 256) (hl : ws.length ≤ 256) (hk : (k : Int) < L) :
    Filled L d (k + 1) ((cs.set x.i.toNat x.c).set x.i.toNat (x.c + 1)) := by
  have hb := sorted_mem hR (List.mem_of_getElem? hx)
  have hn := sorted_nodup hR
  refine fill_put (fill_set (fill_set h hn (fun y hy => (sorted_mem hR hy).1) hx _) hn (fun y hy => (sorted_mem hR hy).1) hx _) hx ?_
  rw [List.getElem?_set_self (by rw [List.length_set]; omega), if_pos hk]
theorem fill_less {a s L : Int} {ws : List Int} {d : List Part} {k : Nat} {cs : List Int} (h : Filled L d k cs) (hR : sortR (partsOf a s ws) d) {x : Part} (hx : d[k]? = some x) (hc : cs.length = 256) (hl : ws.length ≤ 256) (hk : ¬ (k : Int) < L) :
    Filled L d (k + 1) (cs.set x.i.toNat x.c) := by
  have hb := sorted_mem hR (List.mem_of_getElem? hx)
  refine fill_put (fill_set h (sorted_nodup hR) (fun y hy => (sorted_mem hR hy).1) hx _) hx ?_
  rw [List.getElem?_set_self (by omega), if_neg hk, Int.add_zero]
/-- A part's place in a sorted order is its rank. -/
theorem rank_at {d0 d : List Part} (hR : sortR d0 d) (hn : (d.map (·.i)).Nodup) {j : Nat} {x : Part} (hx : d[j]? = some x) : rank d0 x = j := by
  unfold rank
  rw [← hR.1.countP_eq]
  obtain ⟨hlt, rfl⟩ := List.getElem?_eq_some_iff.1 hx
  have hp := List.pairwise_iff_getElem.1 hR.2
  have e : d = d.take j ++ (d[j] :: d.drop (j + 1)) := by rw [← List.drop_eq_getElem_cons hlt, List.take_append_drop]
  have h1 : (d.take j).countP (fun q => ahead q d[j]) = j := by
    rw [List.countP_eq_length.2, List.length_take, Nat.min_eq_left (by omega)]
    intro y hy
    obtain ⟨i, hi, rfl⟩ := List.mem_iff_getElem.1 hy
    have hi' : i < j := by rw [List.length_take] at hi; omega
    rw [List.getElem_take]
    have h2 := hp i j (by omega) hlt hi'
    have h3 := nodup_ne hn (List.getElem?_eq_getElem (show i < d.length by omega)) (List.getElem?_eq_getElem hlt) (by omega)
    simp only [ahead, Bool.or_eq_false_iff, Bool.and_eq_false_iff, decide_eq_false_iff_not, Bool.or_eq_true, Bool.and_eq_true, decide_eq_true_eq] at h2 ⊢
    omega
  have h4 : (d.drop (j + 1)).countP (fun q => ahead q d[j]) = 0 := by
    rw [List.countP_eq_zero]
    intro y hy
    obtain ⟨i, hi, rfl⟩ := List.mem_iff_getElem.1 hy
    rw [List.getElem_drop]
    rw [List.length_drop] at hi
    have h2 := hp j (j + 1 + i) hlt (by omega) (by omega)
    simp [h2]
  have h5 : ahead d[j] d[j] = false := by simp [ahead]
  have h6 : d.countP (fun q => ahead q d[j]) = (d.take j ++ (d[j] :: d.drop (j + 1))).countP (fun q => ahead q d[j]) := congrArg (List.countP _) e
  rw [h6, List.countP_append, List.countP_cons, h1, h4, h5]
  simp
theorem filled_end {a s : Int} {ws : List Int} {d : List Part} {k : Nat} {cs : List Int} (h : Filled (leftOf a (partsOf a s ws)) d k cs) (hR : sortR (partsOf a s ws) d) (hc : cs.length = 256) (hl : ws.length ≤ 256) (hk : d.length ≤ k) : cs.take ws.length = splitW a s ws := by
  apply List.ext_getElem?
  intro i
  rw [List.getElem?_take]
  split
  · rename_i hi
    have hpi : (partsOf a s ws)[i]? = some (partAt a s ws i) := by
      rw [partsOf, List.getElem?_map, List.getElem?_range hi]; rfl
    obtain ⟨j, hj, hje⟩ := List.mem_iff_getElem.1 (hR.1.mem_iff.2 (List.mem_of_getElem? hpi))
    have hdj : d[j]? = some (partAt a s ws i) := by rw [List.getElem?_eq_getElem hj, hje]
    have h1 := h j _ (by omega) hdj
    have h2 : (partAt a s ws i).i.toNat = i := by simp [partAt]
    rw [h2] at h1
    rw [h1, splitW, List.getElem?_map, hpi, Option.map_some, rank_at hR (sorted_nodup hR) hdj]
  · rename_i hi
    rw [splitW, List.getElem?_map, List.getElem?_eq_none (by rw [partsOf_length]; omega)]; rfl
end Go.Proofs.Ytoiiblkncbnlaaa

/-
  DERIVED: THE SHELF's CONTRACTS AT THIS DUMP, IN PLAIN WORDS (tools/lay-plain.mjs out of 'YtoiiblkncbnlaaaLayAs.lean', which tools/lay-shelf.mjs wrote): THE SAME DECLARATIONS UNDER THE SAME NAMES: 'import', 'namespace', 'open', 'def', 'theorem' AND NOTHING ELSE: no command of the shelf's: FOR A HAND-IN. Each laying: the table of numbers ('.._ren') and one theorem, a field a fact of the dump's own or the kernel's comparison; each contract: ONE APPLICATION.
-/
namespace Go.Proofs
open Go.Shelf
def Try.lsort_ren : Go.Shelf.Ren := ⟨fun | 6 => 53 | 15 => 47 | 14 => 77 | 28 => 65 | 29 => 66 | 20 => 89 | 21 => 90 | 22 => 91 | 23 => 92 | 24 => 93 | 25 => 94 | 26 => 95 | 27 => 96 | 46 => 99 | 47 => 82 | 48 => 83 | 49 => 100 | 50 => 101 | 57 => 102 | n => n, fun | 22 => 98 | 24 => 103 | 25 => 105 | 3 => 3 | 39 => 93 | 0 => 0 | 53 => 119 | 55 => 121 | 4 => 4 | 46 => 112 | 45 => 111 | 50 => 116 | 5 => 5 | 9 => 9 | 66 => 135 | 70 => 139 | 76 => 148 | 77 => 149 | n => n, fun | n => n⟩
theorem Try.lsort : Go.Proofs.SlLaysF0.n6 Try.prog Try.lsort_ren := {
  mixed := by kernel_rfl
  f6 := ⟨Try.f53.name, by decide, Try.func53.trans (congrArg some (by kernel_rfl))⟩
  f14 := ⟨Try.f77.name, by decide, Try.func77.trans (congrArg some (by kernel_rfl))⟩
  f15 := Try.func47.trans (congrArg some (by kernel_rfl))
  f20 := ⟨Try.f89.name, by decide, Try.func89.trans (congrArg some (by kernel_rfl))⟩
  f21 := ⟨Try.f90.name, by decide, Try.func90.trans (congrArg some (by kernel_rfl))⟩
  f22 := ⟨Try.f91.name, by decide, Try.func91.trans (congrArg some (by kernel_rfl))⟩
  f23 := ⟨Try.f92.name, by decide, Try.func92.trans (congrArg some (by kernel_rfl))⟩
  f24 := ⟨Try.f93.name, by decide, Try.func93.trans (congrArg some (by kernel_rfl))⟩
  f25 := ⟨Try.f94.name, by decide, Try.func94.trans (congrArg some (by kernel_rfl))⟩
  f26 := ⟨Try.f95.name, by decide, Try.func95.trans (congrArg some (by kernel_rfl))⟩
  f27 := ⟨Try.f96.name, by decide, Try.func96.trans (congrArg some (by kernel_rfl))⟩
  f28 := Try.func65.trans (congrArg some (by kernel_rfl))
  f29 := Try.func66.trans (congrArg some (by kernel_rfl))
  f46 := ⟨Try.f99.name, by decide, Try.func99.trans (congrArg some (by kernel_rfl))⟩
  f47 := Try.func82.trans (congrArg some (by kernel_rfl))
  f48 := Try.func83.trans (congrArg some (by kernel_rfl))
  f49 := ⟨Try.f100.name, by decide, Try.func100.trans (congrArg some (by kernel_rfl))⟩
  f50 := ⟨Try.f101.name, by decide, Try.func101.trans (congrArg some (by kernel_rfl))⟩
  f57 := ⟨Try.f102.name, by decide, Try.func102.trans (congrArg some (by kernel_rfl))⟩
  t0 := Try.underlying0
  a0 := Try.isAgg0
  z0 := Try.sizeOf0
  v0 := Try.zeroValue0
  t3 := Try.underlying3
  a3 := Try.isAgg3
  z3 := Try.sizeOf3
  v3 := Try.zeroValue3
  t4 := Try.underlying4
  a4 := Try.isAgg4
  z4 := Try.sizeOf4
  v4 := Try.zeroValue4
  t5 := Try.underlying5
  a5 := Try.isAgg5
  z5 := Try.sizeOf5
  v5 := Try.zeroValue5
  t9 := Try.underlying9
  a9 := Try.isAgg9
  z9 := Try.sizeOf9
  v9 := Try.zeroValue9
  t22 := Try.underlying98
  a22 := Try.isAgg98
  z22 := Try.sizeOf98
  v22 := Try.zeroValue98
  t25 := Try.underlying105
  a25 := Try.isAgg105
  z25 := Try.sizeOf105
  v25 := Try.zeroValue105
  t39 := Try.underlying93
  a39 := Try.isAgg93
  z39 := Try.sizeOf93
  v39 := Try.zeroValue93
  t45 := Try.underlying111
  a45 := Try.isAgg111
  z45 := Try.sizeOf111
  v45 := Try.zeroValue111
  t46 := Try.underlying112
  a46 := Try.isAgg112
  z46 := Try.sizeOf112
  v46 := Try.zeroValue112
  t50 := Try.underlying116
  a50 := Try.isAgg116
  z50 := Try.sizeOf116
  v50 := Try.zeroValue116
  t53 := Try.underlying119
  a53 := Try.isAgg119
  z53 := Try.sizeOf119
  v53 := Try.zeroValue119
  t55 := Try.underlying121
  a55 := Try.isAgg121
  z55 := Try.sizeOf121
  v55 := Try.zeroValue121
  t66 := Try.underlying135
  a66 := Try.isAgg135
  z66 := Try.sizeOf135
  v66 := Try.zeroValue135
  t70 := Try.underlying139
  a70 := Try.isAgg139
  z70 := Try.sizeOf139
  v70 := Try.zeroValue139
  t76 := Try.underlying148
  a76 := Try.isAgg148
  z76 := Try.sizeOf148
  v76 := Try.zeroValue148
  t77 := Try.underlying149
  a77 := Try.isAgg149
  z77 := Try.sizeOf149
  v77 := Try.zeroValue149 }
def Try.lsortP_ren : Go.Shelf.Ren := ⟨fun | 6 => 28 | 15 => 47 | 14 => 46 | 28 => 65 | 29 => 66 | 20 => 57 | 21 => 58 | 22 => 59 | 23 => 60 | 24 => 61 | 25 => 62 | 26 => 63 | 27 => 64 | 46 => 81 | 47 => 82 | 48 => 83 | 49 => 84 | 50 => 85 | 57 => 97 | n => n, fun | 22 => 46 | 24 => 55 | 25 => 80 | 3 => 3 | 39 => 93 | 0 => 0 | 53 => 119 | 55 => 121 | 4 => 4 | 46 => 112 | 45 => 111 | 50 => 116 | 5 => 5 | 9 => 9 | 66 => 135 | 70 => 139 | 76 => 148 | 77 => 149 | n => n, fun | n => n⟩
theorem Try.lsortP : Go.Proofs.SlLaysF0.n6 Try.prog Try.lsortP_ren := {
  mixed := by kernel_rfl
  f6 := ⟨Try.f28.name, by decide, Try.func28.trans (congrArg some (by kernel_rfl))⟩
  f14 := ⟨Try.f46.name, by decide, Try.func46.trans (congrArg some (by kernel_rfl))⟩
  f15 := Try.func47.trans (congrArg some (by kernel_rfl))
  f20 := ⟨Try.f57.name, by decide, Try.func57.trans (congrArg some (by kernel_rfl))⟩
  f21 := ⟨Try.f58.name, by decide, Try.func58.trans (congrArg some (by kernel_rfl))⟩
  f22 := ⟨Try.f59.name, by decide, Try.func59.trans (congrArg some (by kernel_rfl))⟩
  f23 := ⟨Try.f60.name, by decide, Try.func60.trans (congrArg some (by kernel_rfl))⟩
  f24 := ⟨Try.f61.name, by decide, Try.func61.trans (congrArg some (by kernel_rfl))⟩
  f25 := ⟨Try.f62.name, by decide, Try.func62.trans (congrArg some (by kernel_rfl))⟩
  f26 := ⟨Try.f63.name, by decide, Try.func63.trans (congrArg some (by kernel_rfl))⟩
  f27 := ⟨Try.f64.name, by decide, Try.func64.trans (congrArg some (by kernel_rfl))⟩
  f28 := Try.func65.trans (congrArg some (by kernel_rfl))
  f29 := Try.func66.trans (congrArg some (by kernel_rfl))
  f46 := ⟨Try.f81.name, by decide, Try.func81.trans (congrArg some (by kernel_rfl))⟩
  f47 := Try.func82.trans (congrArg some (by kernel_rfl))
  f48 := Try.func83.trans (congrArg some (by kernel_rfl))
  f49 := ⟨Try.f84.name, by decide, Try.func84.trans (congrArg some (by kernel_rfl))⟩
  f50 := ⟨Try.f85.name, by decide, Try.func85.trans (congrArg some (by kernel_rfl))⟩
  f57 := ⟨Try.f97.name, by decide, Try.func97.trans (congrArg some (by kernel_rfl))⟩
  t0 := Try.underlying0
  a0 := Try.isAgg0
  z0 := Try.sizeOf0
  v0 := Try.zeroValue0
  t3 := Try.underlying3
  a3 := Try.isAgg3
  z3 := Try.sizeOf3
  v3 := Try.zeroValue3
  t4 := Try.underlying4
  a4 := Try.isAgg4
  z4 := Try.sizeOf4
  v4 := Try.zeroValue4
  t5 := Try.underlying5
  a5 := Try.isAgg5
  z5 := Try.sizeOf5
  v5 := Try.zeroValue5
  t9 := Try.underlying9
  a9 := Try.isAgg9
  z9 := Try.sizeOf9
  v9 := Try.zeroValue9
  t22 := Try.underlying46
  a22 := Try.isAgg46
  z22 := Try.sizeOf46
  v22 := Try.zeroValue46
  t25 := Try.underlying80
  a25 := Try.isAgg80
  z25 := Try.sizeOf80
  v25 := Try.zeroValue80
  t39 := Try.underlying93
  a39 := Try.isAgg93
  z39 := Try.sizeOf93
  v39 := Try.zeroValue93
  t45 := Try.underlying111
  a45 := Try.isAgg111
  z45 := Try.sizeOf111
  v45 := Try.zeroValue111
  t46 := Try.underlying112
  a46 := Try.isAgg112
  z46 := Try.sizeOf112
  v46 := Try.zeroValue112
  t50 := Try.underlying116
  a50 := Try.isAgg116
  z50 := Try.sizeOf116
  v50 := Try.zeroValue116
  t53 := Try.underlying119
  a53 := Try.isAgg119
  z53 := Try.sizeOf119
  v53 := Try.zeroValue119
  t55 := Try.underlying121
  a55 := Try.isAgg121
  z55 := Try.sizeOf121
  v55 := Try.zeroValue121
  t66 := Try.underlying135
  a66 := Try.isAgg135
  z66 := Try.sizeOf135
  v66 := Try.zeroValue135
  t70 := Try.underlying139
  a70 := Try.isAgg139
  z70 := Try.sizeOf139
  v70 := Try.zeroValue139
  t76 := Try.underlying148
  a76 := Try.isAgg148
  z76 := Try.sizeOf148
  v76 := Try.zeroValue148
  t77 := Try.underlying149
  a77 := Try.isAgg149
  z77 := Try.sizeOf149
  v77 := Try.zeroValue149 }
def Try.lcmp_ren : Go.Shelf.Ren := ⟨fun | 5 => 30 | 7 => 48 | n => n, fun | 22 => 3 | 3 => 3 | 4 => 4 | n => n, fun | n => n⟩
theorem Try.lcmp : Go.Proofs.SlLaysC2.n5 Try.prog Try.lcmp_ren := {
  mixed := by kernel_rfl
  f5 := ⟨Try.f30.name, by decide, Try.func30.trans (congrArg some (by kernel_rfl))⟩
  f7 := ⟨Try.f48.name, by decide, Try.func48.trans (congrArg some (by kernel_rfl))⟩
  t3 := Try.underlying3
  a3 := Try.isAgg3
  z3 := Try.sizeOf3
  v3 := Try.zeroValue3
  t4 := Try.underlying4
  a4 := Try.isAgg4
  z4 := Try.sizeOf4
  v4 := Try.zeroValue4
  t22 := Try.underlying3
  a22 := Try.isAgg3
  z22 := Try.sizeOf3
  v22 := Try.zeroValue3 }
def Try.lkeys_ren : Go.Shelf.Ren := ⟨fun | 7 => 21 | 10 => 43 | n => n, fun | 23 => 27 | 26 => 3 | 3 => 4 | 28 => 69 | 0 => 0 | 27 => 68 | 33 => 66 | 4 => 4 | n => n, fun | n => n⟩
theorem Try.lkeys : Go.Proofs.SlLaysZI.n7 Try.prog Try.lkeys_ren := {
  mixed := by kernel_rfl
  f7 := ⟨Try.f21.name, by decide, Try.func21.trans (congrArg some (by kernel_rfl))⟩
  f10 := ⟨Try.f43.name, by decide, Try.func43.trans (congrArg some (by kernel_rfl))⟩
  t0 := Try.underlying0
  a0 := Try.isAgg0
  z0 := Try.sizeOf0
  v0 := Try.zeroValue0
  t4 := Try.underlying4
  a4 := Try.isAgg4
  z4 := Try.sizeOf4
  v4 := Try.zeroValue4
  t23 := Try.underlying27
  a23 := Try.isAgg27
  z23 := Try.sizeOf27
  v23 := Try.zeroValue27
  t26 := Try.underlying3
  a26 := Try.isAgg3
  z26 := Try.sizeOf3
  v26 := Try.zeroValue3
  t27 := Try.underlying68
  a27 := Try.isAgg68
  z27 := Try.sizeOf68
  v27 := Try.zeroValue68
  t28 := Try.underlying69
  a28 := Try.isAgg69
  z28 := Try.sizeOf69
  v28 := Try.zeroValue69
  t33 := Try.underlying66
  a33 := Try.isAgg66
  z33 := Try.sizeOf66
  v33 := Try.zeroValue66 }
def Try.lsorted_ren : Go.Shelf.Ren := ⟨fun | 6 => 20 | 8 => 42 | 9 => 40 | 11 => 50 | 13 => 47 | 12 => 49 | 23 => 65 | 24 => 66 | 14 => 67 | 15 => 68 | 16 => 69 | 17 => 70 | 18 => 71 | 19 => 72 | 20 => 73 | 21 => 74 | 22 => 75 | 25 => 86 | 26 => 82 | 27 => 83 | 28 => 87 | 29 => 88 | 30 => 48 | 31 => 98 | n => n, fun | 26 => 3 | 28 => 69 | 24 => 40 | 0 => 0 | 3 => 3 | 37 => 93 | 48 => 119 | 50 => 121 | 4 => 4 | 40 => 112 | 39 => 111 | 45 => 116 | 5 => 5 | 9 => 9 | 51 => 135 | 55 => 139 | 57 => 148 | 58 => 149 | 33 => 66 | n => n, fun | n => n⟩
theorem Try.lsorted : Go.Proofs.SlLaysZI.n6 Try.prog Try.lsorted_ren := {
  mixed := by kernel_rfl
  f6 := ⟨Try.f20.name, by decide, Try.func20.trans (congrArg some (by kernel_rfl))⟩
  f8 := ⟨Try.f42.name, by decide, Try.func42.trans (congrArg some (by kernel_rfl))⟩
  f11 := ⟨Try.f50.name, by decide, Try.func50.trans (congrArg some (by kernel_rfl))⟩
  t0 := Try.underlying0
  a0 := Try.isAgg0
  z0 := Try.sizeOf0
  v0 := Try.zeroValue0
  t24 := Try.underlying40
  a24 := Try.isAgg40
  z24 := Try.sizeOf40
  v24 := Try.zeroValue40
  t26 := Try.underlying3
  a26 := Try.isAgg3
  z26 := Try.sizeOf3
  v26 := Try.zeroValue3
  t28 := Try.underlying69
  a28 := Try.isAgg69
  z28 := Try.sizeOf69
  v28 := Try.zeroValue69
  i26 := by kernel_rfl }
def Try.lsortI_ren : Go.Shelf.Ren := ⟨fun | 5 => 40 | 8 => 47 | 7 => 49 | 19 => 65 | 20 => 66 | 10 => 67 | 11 => 68 | 12 => 69 | 13 => 70 | 14 => 71 | 15 => 72 | 16 => 73 | 17 => 74 | 18 => 75 | 30 => 86 | 31 => 82 | 32 => 83 | 33 => 87 | 34 => 88 | 35 => 48 | 40 => 98 | n => n, fun | 23 => 40 | 25 => 3 | 3 => 3 | 32 => 93 | 22 => 40 | 0 => 0 | 44 => 119 | 46 => 121 | 4 => 4 | 36 => 112 | 35 => 111 | 41 => 116 | 5 => 5 | 9 => 9 | 53 => 135 | 57 => 139 | 63 => 148 | 64 => 149 | n => n, fun | n => n⟩
theorem Try.lsortI : Go.Proofs.SlLaysM.n5 Try.prog Try.lsortI_ren := {
  mixed := by kernel_rfl
  f5 := ⟨Try.f40.name, by decide, Try.func40.trans (congrArg some (by kernel_rfl))⟩
  f7 := ⟨Try.f49.name, by decide, Try.func49.trans (congrArg some (by kernel_rfl))⟩
  f8 := Try.func47.trans (congrArg some (by kernel_rfl))
  f10 := ⟨Try.f67.name, by decide, Try.func67.trans (congrArg some (by kernel_rfl))⟩
  f11 := ⟨Try.f68.name, by decide, Try.func68.trans (congrArg some (by kernel_rfl))⟩
  f12 := ⟨Try.f69.name, by decide, Try.func69.trans (congrArg some (by kernel_rfl))⟩
  f13 := ⟨Try.f70.name, by decide, Try.func70.trans (congrArg some (by kernel_rfl))⟩
  f14 := ⟨Try.f71.name, by decide, Try.func71.trans (congrArg some (by kernel_rfl))⟩
  f15 := ⟨Try.f72.name, by decide, Try.func72.trans (congrArg some (by kernel_rfl))⟩
  f16 := ⟨Try.f73.name, by decide, Try.func73.trans (congrArg some (by kernel_rfl))⟩
  f17 := ⟨Try.f74.name, by decide, Try.func74.trans (congrArg some (by kernel_rfl))⟩
  f18 := ⟨Try.f75.name, by decide, Try.func75.trans (congrArg some (by kernel_rfl))⟩
  f19 := Try.func65.trans (congrArg some (by kernel_rfl))
  f20 := Try.func66.trans (congrArg some (by kernel_rfl))
  f30 := ⟨Try.f86.name, by decide, Try.func86.trans (congrArg some (by kernel_rfl))⟩
  f31 := Try.func82.trans (congrArg some (by kernel_rfl))
  f32 := Try.func83.trans (congrArg some (by kernel_rfl))
  f33 := ⟨Try.f87.name, by decide, Try.func87.trans (congrArg some (by kernel_rfl))⟩
  f34 := ⟨Try.f88.name, by decide, Try.func88.trans (congrArg some (by kernel_rfl))⟩
  f35 := ⟨Try.f48.name, by decide, Try.func48.trans (congrArg some (by kernel_rfl))⟩
  f40 := ⟨Try.f98.name, by decide, Try.func98.trans (congrArg some (by kernel_rfl))⟩
  t0 := Try.underlying0
  a0 := Try.isAgg0
  z0 := Try.sizeOf0
  v0 := Try.zeroValue0
  t3 := Try.underlying3
  a3 := Try.isAgg3
  z3 := Try.sizeOf3
  v3 := Try.zeroValue3
  t4 := Try.underlying4
  a4 := Try.isAgg4
  z4 := Try.sizeOf4
  v4 := Try.zeroValue4
  t5 := Try.underlying5
  a5 := Try.isAgg5
  z5 := Try.sizeOf5
  v5 := Try.zeroValue5
  t9 := Try.underlying9
  a9 := Try.isAgg9
  z9 := Try.sizeOf9
  v9 := Try.zeroValue9
  t22 := Try.underlying40
  a22 := Try.isAgg40
  z22 := Try.sizeOf40
  v22 := Try.zeroValue40
  t23 := Try.underlying40
  a23 := Try.isAgg40
  z23 := Try.sizeOf40
  v23 := Try.zeroValue40
  t25 := Try.underlying3
  a25 := Try.isAgg3
  z25 := Try.sizeOf3
  v25 := Try.zeroValue3
  t32 := Try.underlying93
  a32 := Try.isAgg93
  z32 := Try.sizeOf93
  v32 := Try.zeroValue93
  t35 := Try.underlying111
  a35 := Try.isAgg111
  z35 := Try.sizeOf111
  v35 := Try.zeroValue111
  t36 := Try.underlying112
  a36 := Try.isAgg112
  z36 := Try.sizeOf112
  v36 := Try.zeroValue112
  t41 := Try.underlying116
  a41 := Try.isAgg116
  z41 := Try.sizeOf116
  v41 := Try.zeroValue116
  t44 := Try.underlying119
  a44 := Try.isAgg119
  z44 := Try.sizeOf119
  v44 := Try.zeroValue119
  t46 := Try.underlying121
  a46 := Try.isAgg121
  z46 := Try.sizeOf121
  v46 := Try.zeroValue121
  t53 := Try.underlying135
  a53 := Try.isAgg135
  z53 := Try.sizeOf135
  v53 := Try.zeroValue135
  t57 := Try.underlying139
  a57 := Try.isAgg139
  z57 := Try.sizeOf139
  v57 := Try.zeroValue139
  t63 := Try.underlying148
  a63 := Try.isAgg148
  z63 := Try.sizeOf148
  v63 := Try.zeroValue148
  t64 := Try.underlying149
  a64 := Try.isAgg149
  z64 := Try.sizeOf149
  v64 := Try.zeroValue149 }
end Go.Proofs

/-
  cmp.Or at two numbers; the comparison of two parts, with the world behind it. Conditions: those of each theorem.
-/
set_option linter.unusedVariables false
set_option linter.unusedSimpArgs false
namespace Go.Proofs.Ytoiiblkncbnlaaa
open Go.DL Go.RowKit Go.Shelf Go.Sort
attribute [local go_sem] Oper.semAt_some
set_option maxRecDepth 100000
def orI (a b : Int) : Int := if a = 0 then b else a
theorem ft3 : Try.prog.underlying 3 = some (TypeDesc.int IntKind.i64) := by kernel_rfl
theorem ft22 : Try.prog.underlying 40 = some (TypeDesc.slice 3) := by kernel_rfl
theorem ftmixed : Try.prog.follows .mixedOrders = true := by kernel_rfl
set_option maxHeartbeats 4000000 in
theorem or_calls (b : Nat) (c1 c2 : Int) (w : World) (h0 : w.cell? ⟨b, 0, none⟩ = some (.int .i64 c1)) (h1 : w.cell? ⟨b, 1, none⟩ = some (.int .i64 c2)) :
    Calls Try.prog 78 #[.slice (some ⟨b, 0, none⟩) 2 2] w fun e w' => e = .returned (.int .i64 (orI c1 c2)) ∧ w' = w := by
  refine (callsIn_wide (n := 0)).1 (callsIn_of_wp Try.func78 rfl trivial ?_ rfl)
  simp only [Try.ntmps78, List.size_toArray, List.length_cons, List.length_nil, Nat.reduceAdd, Nat.reduceSub, Array.replicate_succ, Array.replicate_zero, List.push_toArray, List.append_toArray, List.nil_append, List.cons_append]
  have u3 := run_underlying (P := Try.prog) ft3; have u22 := run_underlying (P := Try.prog) ft22
  gi_wp2
  gi_loopw [8] (fun i wr => ∃ k : Nat, k ≤ 2 ∧ i = .int .i64 k ∧ wr = w ∧ (1 ≤ k → c1 = 0) ∧ (2 ≤ k → c2 = 0))
    (fun i _ => 2 - (vInt i).toNat)
  case atStart => exact ⟨0, by omega, rfl, rfl, by omega, by omega⟩
  case round =>
    obtain ⟨k, hk, rfl, rfl, hz1, hz2⟩ := hrel
    match k, hk with
    | 0, _ =>
      gi_wp2
      · go_ret
        rename_i hne
        have e : orI c1 c2 = c1 := by have : c1 ≠ 0 := by simpa using hne
                                      simp [orI, this]
        exact ⟨by rw [e]; rfl, rfl⟩
      · rename_i he
        exact ⟨⟨1, by omega, rfl, trivial, fun _ => by simpa using he, by omega⟩, by simp [vInt]⟩
    | 1, _ =>
      gi_wp2
      · go_ret
        have e : orI c1 c2 = c2 := by simp [orI, hz1 (by omega)]
        exact ⟨by rw [e]; rfl, rfl⟩
      · rename_i he
        exact ⟨⟨2, by omega, rfl, trivial, fun _ => hz1 (by omega), fun _ => by simpa using he⟩, by simp [vInt]⟩
    | 2, _ =>
      gi_wp2
      go_ret
      have e : orI c1 c2 = 0 := by simp [orI, hz1 (by omega), hz2 (by omega)]
      exact ⟨by rw [e]; rfl, rfl⟩
def cfP (x y : Part) : Int := orI (Lib.compareInt y.r x.r) (Lib.compareInt x.i y.i)
set_option maxHeartbeats 4000000 in
theorem before_calls (x y : Part) (W : World) : Calls Try.prog 54 #[.agg #[.int .i64 x.i, .int .i64 x.c, .int .i64 x.r], .agg #[.int .i64 y.i, .int .i64 y.c, .int .i64 y.r]] W fun e w' => e = .returned (.int .i64 (cfP x y)) ∧ ∃ q os', w' = grow (W.drewN q) os' := by
  have hcon := fun a b W' => AnyG.cmp_Compare_int Try.lcmp a b W'
  change ∀ a b W', Calls Try.prog 30 _ _ _ at hcon
  have mixed := ftmixed
  have u3 := run_underlying (P := Try.prog) ft3; have u22 := run_underlying (P := Try.prog) ft22
  unfold cfP
  generalize e1 : Lib.compareInt y.r x.r = r1
  generalize e2 : Lib.compareInt x.i y.i = r2
  go_enter Try.func54, Try.ntmps54
  go_wp2_with (first | (go_at_call 30; refine (hcon _ _ _).mono ?_; rintro e w' ⟨rfl, rfl⟩) | (go_at_call 78; refine (or_calls _ r1 r2 _ ?_ ?_).mono ?_; rintro e w' ⟨rfl, rfl⟩))
  refine wp_region_still_tail 10 mixed (by kernel_rfl) ?_
  simp only [List.take_succ_cons, List.take_zero, List.drop_succ_cons, List.drop_zero]
  change wpStill _ _ (World.drew _) _ _ _
  change wpStill _ _ (World.drew ((W.alloc (.cells #[.int .i64 x.i, .int .i64 x.c, .int .i64 x.r] 103)).alloc (.cells #[.int .i64 y.i, .int .i64 y.c, .int .i64 y.r] 103))) (fun a' => wpList _ _ _ _ _ (World.drew ((W.alloc (.cells #[.int .i64 x.i, .int .i64 x.c, .int .i64 x.r] 103)).alloc (.cells #[.int .i64 y.i, .int .i64 y.c, .int .i64 y.r] 103)))) _ _
  obtain ⟨W3, hW3⟩ : ∃ W3, World.drew ((W.alloc (.cells #[.int .i64 x.i, .int .i64 x.c, .int .i64 x.r] 103)).alloc (.cells #[.int .i64 y.i, .int .i64 y.c, .int .i64 y.r] 103)) = W3 := ⟨_, rfl⟩
  rw [hW3]
  have f0 : W3.cell? ⟨W.heap.size, 0, none⟩ = some (.int .i64 x.i) := by rw [← hW3]; simp
  have f2 : W3.cell? ⟨W.heap.size, 2, none⟩ = some (.int .i64 x.r) := by rw [← hW3]; simp
  have k0 : W3.cell? ⟨W.heap.size + 1, 0, none⟩ = some (.int .i64 y.i) := by rw [← hW3]; simp
  have k2 : W3.cell? ⟨W.heap.size + 1, 2, none⟩ = some (.int .i64 y.r) := by rw [← hW3]; simp
  have hgr : ∃ q os', W3 = grow (W.drewN q) os' := ⟨1, _, by rw [← hW3, alloc_eq_grow, alloc_eq_grow, grow_grow]; rfl⟩
  clear hW3
  repeat (first | still_step | still_call (hcon _ _ _))
  refine wpStill_nil ?_
  go_wp2_with (go_at_call 78; refine (or_calls _ r1 r2 _ (by simp) (by simp)).mono ?_; rintro e w' ⟨rfl, rfl⟩)
  go_ret
  obtain ⟨q0, os0, rfl⟩ := hgr
  exact ⟨rfl, q0, _, by rw [alloc_eq_grow, grow_grow]⟩
end Go.Proofs.Ytoiiblkncbnlaaa

/-
  slices.SortFunc at the parts of an amount: what money.Split's walk asks. Conditions: those of each theorem.
-/
set_option linter.unusedVariables false
set_option linter.unusedSimpArgs false
namespace Go.Proofs.Ytoiiblkncbnlaaa
open Go.DL Go.RowKit Go.Shelf Go.Sort
instance : Inhabited Part := ⟨⟨0, 0, 0⟩⟩
def encK (p : Part) : List Value := [.int .i64 p.i, .int .i64 p.c, .int .i64 p.r]
theorem lt_ahead (x y : Part) : ltOf cfP x y = ahead x y := by
  unfold ltOf cfP orI Lib.compareInt ahead
  by_cases h1 : y.r < x.r
  · simp [h1]
  · by_cases h2 : x.r < y.r
    · have h3 : ¬ x.r = y.r := by omega
      simp [h1, h2, h3]
    · have h3 : x.r = y.r := by omega
      by_cases h4 : x.i < y.i
      · simp [h1, h2, h3, h4]
      · by_cases h5 : y.i < x.i <;> simp [h1, h2, h3, h4, h5]
theorem swoP : SWO (ltOf cfP) where
  irrefl x := by rw [lt_ahead]; simp [ahead]
  trans x y z h1 h2 := by
    rw [lt_ahead] at *
    simp only [ahead, Bool.or_eq_true, Bool.and_eq_true, decide_eq_true_eq] at *
    omega
  ntrans x y z h1 h2 := by
    rw [lt_ahead] at *
    simp only [ahead, Bool.or_eq_false_iff, Bool.and_eq_false_iff, decide_eq_false_iff_not] at *
    omega
theorem flatK_row (d : List Part) : (flatK encK 3 d.toArray).toList = rowV (d.map encPart) := by
  have hu : ∀ e ∈ d.map encPart, e.cells.length = 3 := fun e he => by obtain ⟨x, _, rfl⟩ := List.mem_map.1 he; rfl
  apply List.ext_getElem?
  intro t
  by_cases ht : t < d.length * 3
  · have hk : t / 3 < d.length := by omega
    have h1 : (d.map encPart)[t / 3]? = some (encPart d[t / 3]) := by rw [List.getElem?_map, List.getElem?_eq_getElem hk]; rfl
    have hsz : (flatK encK 3 d.toArray).size = d.length * 3 := by simp
    have h2 : (flatK encK 3 d.toArray).toList[t]? = some ((encK d[t / 3])[t % 3]!) := by
      rw [Array.getElem?_toList, Array.getElem?_eq_getElem (by rw [hsz]; exact ht)]
      have := get_flatK encK 3 d.toArray t (by simpa using ht)
      rw [getElem!_pos _ t (by rw [hsz]; exact ht)] at this
      rw [this, getElem!_pos d.toArray (t / 3) (by simpa using hk)]
      simp
    rw [h2, rowV, List.getElem?_map]
    have h3 : ∀ j c, (encPart d[t / 3]).cells[j]? = some c → (flat (d.map encPart))[t / 3 * 3 + j]? = some c := fun j c hj => flat_get (sz := 3) hu h1 hj
    have h4 : t = t / 3 * 3 + t % 3 := by omega
    clear h2 h1 hsz
    generalize d[t / 3] = q at h3 ⊢
    have h5 : t % 3 < 3 := Nat.mod_lt _ (by decide)
    generalize hm : t % 3 = m at h4 h5 ⊢
    rw [h4]
    match m, h5 with
    | 0, _ => rw [h3 0 _ rfl]; rfl
    | 1, _ => rw [h3 1 _ rfl]; rfl
    | 2, _ => rw [h3 2 _ rfl]; rfl
  · rw [List.getElem?_eq_none (by simp; omega), List.getElem?_eq_none (by rw [rowV, List.length_map, flat_length _ hu, List.length_map]; omega)]
theorem cmp_lays (blk off size : Nat) (w : World) : CmpLays Try.prog 54 #[] encK 3 cfP blk off size w := fun _ _ _ _ x y => before_calls x y _
theorem take_put (cur F : Array Value) (h : F.size ≤ cur.size) : (putCells id 0 F cur).toList.take F.size = F.toList := by
  apply List.ext_getElem?
  intro j
  by_cases hj : j < F.size
  · rw [List.getElem?_take_of_lt hj, Array.getElem?_toList]
    simp [putCells, hj, show j < cur.size by omega]
  · rw [List.getElem?_take_eq_none (by omega), List.getElem?_eq_none (by simp; omega)]
theorem sort_ok : SortOK Try.prog 53 54 103 3 encPart sortR := by
  refine ⟨⟨Try.f53, by kernel_rfl, by kernel_rfl, by kernel_rfl⟩, ?_⟩
  intro w blk cap cur d hne hlt hb hcap hmax hcs htk
  have hblk := (Array.getElem?_eq_some_iff.1 hb).1
  have hF : (flatK encK 3 d.toArray).size = d.length * 3 := by simp
  have hcur : d.length * 3 ≤ cur.size := by rw [hcs]; exact Nat.mul_le_mul_right _ hcap
  have hH : HoldsK encK 3 w blk 0 d.toArray := by
    intro j hj
    rw [hF] at hj
    refine ⟨?_, by simp [World.frozen?, hb]⟩
    have h1 : (cur.toList.take (d.length * 3))[j]? = (flatK encK 3 d.toArray).toList[j]? := by rw [htk, flatK_row]
    rw [List.getElem?_take_of_lt hj] at h1
    simp only [World.cell?, hb, Nat.zero_add, Option.isSome_none, Bool.false_eq_true, if_false]
    rw [← Array.getElem?_toList, h1, Array.getElem?_toList, Array.getElem?_eq_getElem (by rw [hF]; exact hj), getElem!_pos _ j (by rw [hF]; exact hj)]
    rfl
  have hcon := AnyQ.slices_SortFunc Try.lsort 3 Try.isAgg103 Try.sizeOf103 encK (fun _ => rfl) (fun x v hv => by simp [encK] at hv; rcases hv with rfl | rfl | rfl <;> rfl) cfP swoP 54 #[] blk 0 cap d.toArray w
    (enters_of Try.func54 (by kernel_rfl) rfl) (cmp_lays blk 0 _ w) hH hblk (by simpa using hlt)
  simp only [List.size_toArray] at hcon
  refine hcon.mono ?_
  rintro e w' ⟨rfl, d', n, os, hp, hs, rfl⟩
  have hsz : d'.size = d.length := by simpa using hp.1
  have hF' : (flatK encK 3 d').size = d.length * 3 := by simp [hsz]
  refine ⟨rfl, d'.toList, putCells id 0 (flatK encK 3 d') cur, ⟨?_, ?_⟩, by simpa using hsz, ⟨rfl, rfl, rfl, by simp [sortWorldK, putRowK], fun k hk hne' => ?_⟩, ?_, by simp [putCells], ?_⟩
  · have := hp.2.2
    rw [Array.extract_eq_self_of_le (by omega), Array.extract_eq_self_of_le (by simp)] at this
    simpa using this
  · rw [List.pairwise_iff_getElem]
    intro i j hi hj hij
    have := hs i j (Nat.zero_le _) hij (by simpa [hsz] using hj)
    rw [lt_ahead, getElem!_pos d' j (by simpa using hj), getElem!_pos d' i (by simpa using hi)] at this
    simpa using this
  · unfold sortWorldK putRowK
    rw [heap_grow_old _ _ (by simpa using hk)]
    have : blk ≠ k := fun e => hne' (by rw [e])
    simp [putRow, mapBlock, Sort.ahead, Array.getElem?_modify, this]
  · unfold sortWorldK putRowK
    rw [heap_grow_old _ _ (by simpa using hblk)]
    simp [putRow, mapBlock, Sort.ahead, Array.getElem?_modify, hb, onCells]
  · have := take_put cur (flatK encK 3 d') (by rw [hF']; exact hcur)
    rw [hF'] at this
    rw [this]
    have := flatK_row d'.toList
    rwa [Array.toArray_toList] at this
end Go.Proofs.Ytoiiblkncbnlaaa

/-
  Walks at the data level, printed by gen.py: what each Go function returns, for data that reads as said. Conditions: those of each theorem.
-/
namespace Go.Proofs.Ytoiiblkncbnlaaa
open Go.DL
set_option maxRecDepth 100000
set_option maxHeartbeats 4000000
set_option linter.unusedVariables false
set_option linter.unusedSimpArgs false
theorem ret_cloneI (l : List Int) (hl : l.length ≤ 100000) : Ret Try.prog 55 [(.sl 1 (l.map encI))] (.sl 1 (l.map encI)) := by
  refine Ret.of_T Try.func55 (by kernel_rfl) rfl ?_
  refine T_turn [] [0] [] (mk 8 [(0, (dt (.sl 1 (l.map encI))))] []) (by kernel_rfl) ?_
  refine T_reg [] [0] [] (mk 8 [(0, (dt (.sl 1 (l.map encI))))] []) (True ∧ True ∧ True) (by kernel_rfl) ⟨trivial, trivial, trivial⟩ ?_
  refine T_seq ?_
  refine T_seq (T_parts ?_)
  refine TL_part 1 [] (mk 8 [(0, (dt (.sl 1 (l.map encI)))), (3, (dt (.sl 1 (l.map encI))))] []) (True ∧ True ∧ True) (by kernel_rfl) ⟨trivial, trivial, trivial⟩ rfl ?_
  refine TL_nil (sz := 1) (es := l.map encI) rfl rfl ⟨3, by kernel_rfl⟩ (by kernel_rfl) (fun b1 hb2 => ?_)
  rcases b1 with _ | _
  · skip
    refine TL_nilQ ?_
    refine T_turn [] [0, 4] [] (mk 8 [(0, (dt (.sl 1 (l.map encI)))), (4, (dt (B false)))] []) (by kernel_rfl) ?_
    refine T_cond false (by kernel_rfl) (fun h => absurd (h.symm.trans rfl) (by decide)) (fun _ => ?_)
    refine T_skip ?_
    refine T_reg [{}, {}, { d := some (.sl 1 (l.map encI)) }] [2] [] (mk 8 [(2, (.one (.own 7)))] [(7, (.row 3 1 (l.map encI)))]) (True ∧ (dfill (fun i => some (i * 1, 1)) (List.replicate (0 * 1) .junk) [] = some ((flat (([] : List Int).map encI)).map .dat)) ∧ True ∧ True ∧ True ∧ (((([] : List Int).map encI).length + (l.map encI).length) * 8 ≤ 140737488355328 ∧ cellsOne (l.map encI) ∧ (([] : List Int).map encI) ++ l.map encI = l.map encI) ∧ True ∧ True ∧ True) (by kernel_rfl) ⟨trivial, rfl, trivial, trivial, trivial, ⟨by simp only [List.length_map, List.length_nil, List.length_cons]; omega, encI_one _, by simp⟩, trivial, trivial, trivial⟩ ?_
    refine T_ret ?_
    exact ret_here [(.one (.own 7))] (by kernel_rfl) rfl
  · skip
    have nil3 : l = [] := by simpa using hb2 rfl
    refine TL_nilQ ?_
    refine T_turn [] [0, 4] [] (mk 8 [(0, (dt (.sl 1 (l.map encI)))), (4, (dt (B true)))] []) (by kernel_rfl) ?_
    refine T_cond true (by kernel_rfl) (fun _ => ?_) (fun h => absurd (h.symm.trans rfl) (by decide))
    refine T_reg [] [2] [] (mk 8 [(2, (dt nilS))] []) (True ∧ True ∧ True) (by kernel_rfl) ⟨trivial, trivial, trivial⟩ ?_
    refine T_ret ?_
    exact ret_here [(dt nilS)] (by kernel_rfl) (.inr ⟨rfl, 1, (by show D.sl _ _ = _; exact congrArg (fun l => D.sl 1 (l.map encI)) (by simp_all : l = []))⟩)

theorem ret_parts (a n : Int) (ws : List Int) : Ret Try.prog 52 [(I a), (.sl 1 (ws.map encI)), (I n)] (.fn 76 [(.ptr [(.sl 1 (ws.map encI))]), (.ptr [(I a)]), (.ptr [(I n)])]) := by
  refine Ret.of_T Try.func52 (by kernel_rfl) rfl ?_
  refine T_turn [] [0, 1, 2] [] (mk 8 [(0, (dt (I a))), (1, (dt (.sl 1 (ws.map encI)))), (2, (dt (I n)))] []) (by kernel_rfl) ?_
  refine T_reg [] [3, 4, 5] [] (mk 8 [(3, (.one (.ref 3 0))), (4, (.one (.ref 4 0))), (5, (.one (.ref 5 0)))] [(5, (.var [(.dat (I n))])), (4, (.var [(.dat (.sl 1 (ws.map encI)))])), (3, (.var [(.dat (I a))]))]) (True ∧ True ∧ True ∧ True ∧ True ∧ True ∧ True ∧ True ∧ True) (by kernel_rfl) ⟨trivial, trivial, trivial, trivial, trivial, trivial, trivial, trivial, trivial⟩ ?_
  refine T_turn [3, 4, 5] [3, 4, 5] [] (mk 8 [(3, (dt (.ptr [(I a)]))), (4, (dt (.ptr [(.sl 1 (ws.map encI))]))), (5, (dt (.ptr [(I n)])))] []) (by kernel_rfl) ?_
  refine T_reg [] [6] [] (mk 8 [(6, (.one (.fn 76 [.inr (.ptr [(.sl 1 (ws.map encI))]), .inr (.ptr [(I a)]), .inr (.ptr [(I n)])])))] []) (True ∧ True ∧ True ∧ True ∧ True) (by kernel_rfl) ⟨trivial, trivial, trivial, trivial, trivial⟩ ?_
  refine T_ret ?_
  exact ret_here [(.one (.fn 76 [.inr (.ptr [(.sl 1 (ws.map encI))]), .inr (.ptr [(I a)]), .inr (.ptr [(I n)])]))] (by kernel_rfl) rfl

theorem ret_split (a : Int) (ws : List Int) (ha : 0 ≤ a) (ha2 : a ≤ 1125899906842624) (hw : ∀ x ∈ ws, 0 ≤ x ∧ x ≤ 1000) (hl : ws.length ≤ 256) (hs : 0 < sumL 0 ws) : Ret Try.prog 44 [(I a), (.sl 1 (ws.map encI))] (.tup [(.sl 1 ((splitW a (sumL 0 ws) ws).map encI)), (I 0)]) := by
  refine Ret.of_T Try.func44 (by kernel_rfl) rfl ?_
  refine T_turn [] [0, 1] [] (mk 89 [(0, (dt (I a))), (1, (dt (.sl 1 (ws.map encI))))] []) (by kernel_rfl) ?_
  refine T_reg [] [0, 1] [] (mk 89 [(0, (dt (I a))), (1, (dt (.sl 1 (ws.map encI))))] []) (True ∧ True ∧ True ∧ True ∧ True) (by kernel_rfl) ⟨trivial, trivial, trivial, trivial, trivial⟩ ?_
  refine T_seq ?_
  refine T_reg [{}, { d := some (I (chkM a)) }] [0, 1, 18] [] (mk 89 [(0, (dt (I a))), (1, (dt (.sl 1 (ws.map encI)))), (18, (dt (B ((chkM a) != 0))))] []) (True ∧ True ∧ True ∧ (Ret Try.prog 51 [(I a)] (I (chkM a))) ∧ True ∧ True ∧ True) (by kernel_rfl) ⟨trivial, trivial, trivial, (ret_chkM _), trivial, trivial, trivial⟩ ?_
  refine T_cond ((chkM a) != 0) (by kernel_rfl) (fun h1 => ?_) (fun h1 => ?_)
  · skip
    have g2 : (chkM a) ≠ 0 := bne_iff_ne.1 (h1)
    exact (by exfalso; have := chkM_cases a; have h0 := sumL_nil ws; first | omega | (have := sumL_end iv (by omega); omega))
  · skip
    have g3 : (chkM a) = 0 := bne_f (h1)
    refine T_skip ?_
    refine T_seq ?_
    refine T_reg [{}, { d := some (I ((ws.length : Nat) : Int)) }] [0, 1, 21] [] (mk 89 [(0, (dt (I a))), (1, (dt (.sl 1 (ws.map encI)))), (21, (dt (B (decide (((ws.length : Nat) : Int) > 256)))))] []) (True ∧ True ∧ True ∧ (True ∧ D.int .i64 ((ws.map encI).length : Int) = (I ((ws.length : Nat) : Int))) ∧ True ∧ True ∧ True) (by kernel_rfl) ⟨trivial, trivial, trivial, ⟨trivial, by rw [List.length_map]⟩, trivial, trivial, trivial⟩ ?_
    refine T_cond (decide (((ws.length : Nat) : Int) > 256)) (by kernel_rfl) (fun h4 => ?_) (fun h4 => ?_)
    · skip
      have g5 : ((ws.length : Nat) : Int) > 256 := of_decide_eq_true (h4)
      exact (by exfalso; have := chkM_cases a; have h0 := sumL_nil ws; first | omega | (have := sumL_end iv (by omega); omega))
    · skip
      have g6 : ¬ (((ws.length : Nat) : Int) > 256) := of_decide_eq_false (h4)
      refine T_skip ?_
      refine T_reg [] [0, 1, 6] [] (mk 89 [(0, (dt (I a))), (1, (dt (.sl 1 (ws.map encI)))), (6, (dt (I 0)))] []) (True ∧ True ∧ True) (by kernel_rfl) ⟨trivial, trivial, trivial⟩ ?_
      refine T_seq ?_
      refine T_reg [{}, { d := some (I ((ws.length : Nat) : Int)) }] [0, 1, 6, 22, 23, 24] [] (mk 89 [(0, (dt (I a))), (1, (dt (.sl 1 (ws.map encI)))), (6, (dt (I 0))), (22, (dt (.sl 1 (ws.map encI)))), (23, (dt (I ((ws.length : Nat) : Int)))), (24, (dt (I 0)))] []) (True ∧ True ∧ True ∧ (True ∧ D.int .i64 ((ws.map encI).length : Int) = (I ((ws.length : Nat) : Int))) ∧ True ∧ True ∧ True) (by kernel_rfl) ⟨trivial, trivial, trivial, ⟨trivial, by rw [List.length_map]⟩, trivial, trivial, trivial⟩ ?_
      refine T_block ?_
      refine T_turn [] [0, 1, 6, 22, 23, 24] [] ((fun ((k, n) : Nat × Int) => (mk 89 [(0, (dt (I a))), (1, (dt (.sl 1 (ws.map encI)))), (6, (dt (I n))), (22, (dt (.sl 1 (ws.map encI)))), (23, (dt (I ((ws.length : Nat) : Int)))), (24, (dt (I ((k : Nat) : Int))))] [])) (0, 0)) (by kernel_rfl) (T_loop (α := Nat × Int) (fun ((k, n) : Nat × Int) => (mk 89 [(0, (dt (I a))), (1, (dt (.sl 1 (ws.map encI)))), (6, (dt (I n))), (22, (dt (.sl 1 (ws.map encI)))), (23, (dt (I ((ws.length : Nat) : Int)))), (24, (dt (I ((k : Nat) : Int))))] [])) (fun ((k, n) : Nat × Int) => (k ≤ (ws).length) ∧ (sumL n (ws.drop k) = sumL 0 ws) ∧ (0 ≤ n ∧ n ≤ 1000 * (k : Int)) ∧ True) (fun ((k, n) : Nat × Int) => (ws).length - k) (0, 0) ⟨Nat.zero_le _, rfl, ⟨Int.le_refl _, by simp⟩, trivial⟩ ?_)
      rintro ⟨k, n⟩ ⟨ik, iv, ib, _⟩
      refine T_reg [] [0, 1, 6, 22, 23, 24, 25] [] (mk 89 [(0, (dt (I a))), (1, (dt (.sl 1 (ws.map encI)))), (6, (dt (I n))), (22, (dt (.sl 1 (ws.map encI)))), (23, (dt (I ((ws.length : Nat) : Int)))), (24, (dt (I ((k : Nat) : Int)))), (25, (dt (B (decide (((k : Nat) : Int) < ((ws.length : Nat) : Int))))))] []) (True ∧ True ∧ True) (by kernel_rfl) ⟨trivial, trivial, trivial⟩ ?_
      refine T_seq ?_
      refine T_cond (decide (((k : Nat) : Int) < ((ws.length : Nat) : Int))) (by kernel_rfl) (fun h7 => ?_) (fun h7 => ?_)
      · skip
        have g8 : ((k : Nat) : Int) < ((ws.length : Nat) : Int) := of_decide_eq_true (h7)
        refine T_skip ?_
        refine T_seq ?_
        refine T_block ?_
        have lt9 : k < (ws).length := by first | omega | (simp only [List.length_set, List.length_map, List.length_append, List.length_cons, List.length_nil] at *; omega)
        obtain ⟨x10, hx11⟩ : ∃ x, (ws)[k]? = some x := ⟨_, List.getElem?_eq_getElem lt9⟩
        have hwx := hw _ (List.mem_of_getElem? hx11)
        refine T_reg [{ d := some (I x10) }] [0, 1, 6, 8, 22, 23, 24] [] (mk 89 [(0, (dt (I a))), (1, (dt (.sl 1 (ws.map encI)))), (6, (dt (I n))), (8, (dt (I x10))), (22, (dt (.sl 1 (ws.map encI)))), (23, (dt (I ((ws.length : Nat) : Int)))), (24, (dt (I ((k : Nat) : Int))))] []) (True ∧ (0 ≤ ((k : Nat) : Int) ∧ (ws.map encI)[k]? = some (I x10)) ∧ True ∧ True ∧ True ∧ True ∧ True) (by kernel_rfl) ⟨trivial, ⟨by omega, by rw [List.getElem?_map, hx11]; rfl⟩, trivial, trivial, trivial, trivial, trivial⟩ ?_
        refine T_seq ?_
        rcases Bool.eq_false_or_eq_true (decide (x10 < 0)) with h12 | h12
        · skip
          have g13 : x10 < 0 := of_decide_eq_true (h12)
          exact (by exfalso; have := hw _ (List.mem_of_getElem? hx11); omega)
        · skip
          have g14 : ¬ (x10 < 0) := of_decide_eq_false (h12)
          refine T_reg [{}, {}, {}, {}, {}, { d := some (B false) }] [0, 1, 6, 8, 22, 23, 24, 33] [] (mk 89 [(0, (dt (I a))), (1, (dt (.sl 1 (ws.map encI)))), (6, (dt (I n))), (8, (dt (I x10))), (22, (dt (.sl 1 (ws.map encI)))), (23, (dt (I ((ws.length : Nat) : Int)))), (24, (dt (I ((k : Nat) : Int)))), (33, (dt (B (decide (x10 > 1000)))))] []) (True ∧ True ∧ True ∧ True ∧ True ∧ True ∧ (((decide (x10 < 0)) == false) = true) ∧ True ∧ (((decide (x10 < 0)) == false) = true) ∧ True ∧ True ∧ ((decide (x10 < 0)) = false) ∧ True) (by kernel_rfl) ⟨trivial, trivial, trivial, trivial, trivial, trivial, (by rw [show (decide (x10 < 0)) = false from h12]; rfl), trivial, (by rw [show (decide (x10 < 0)) = false from h12]; rfl), trivial, trivial, h12, trivial⟩ ?_
          refine T_cond (decide (x10 > 1000)) (by kernel_rfl) (fun h15 => ?_) (fun h15 => ?_)
          · skip
            have g16 : x10 > 1000 := of_decide_eq_true (h15)
            exact (by exfalso; have := hw _ (List.mem_of_getElem? hx11); omega)
          · skip
            have g17 : ¬ (x10 > 1000) := of_decide_eq_false (h15)
            refine T_skip ?_
            refine T_regE [{}, {}, { d := some (I (n + x10)) }] (mk 89 [(0, (dt (I a))), (1, (dt (.sl 1 (ws.map encI)))), (6, (dt (I (n + x10)))), (8, (dt (I x10))), (22, (dt (.sl 1 (ws.map encI)))), (23, (dt (I ((ws.length : Nat) : Int)))), (24, (dt (I ((k : Nat) : Int)))), (33, (dt (B (decide (x10 > 1000))))), (34, (dt (I n))), (35, (dt (I x10))), (36, (dt (I (n + x10))))] []) (True ∧ True ∧ True ∧ True ∧ True ∧ (IntKind.i64.wrap (n + x10) = (n + x10)) ∧ True ∧ True ∧ True) (by kernel_rfl) ⟨trivial, trivial, trivial, trivial, trivial, (i64_wrap (by omega) (by omega)), trivial, trivial, trivial⟩ ?_
            refine T_regE [{ d := some (I ((k + 1 : Nat) : Int)) }] (mk 89 [(0, (dt (I a))), (1, (dt (.sl 1 (ws.map encI)))), (6, (dt (I (n + x10)))), (8, (dt (I x10))), (22, (dt (.sl 1 (ws.map encI)))), (23, (dt (I ((ws.length : Nat) : Int)))), (24, (dt (I ((k + 1 : Nat) : Int)))), (33, (dt (B (decide (x10 > 1000))))), (34, (dt (I n))), (35, (dt (I x10))), (36, (dt (I (n + x10)))), (37, (dt (I ((k + 1 : Nat) : Int))))] []) (True ∧ (IntKind.i64.wrap (((k : Nat) : Int) + 1) = ((k + 1 : Nat) : Int)) ∧ True ∧ True ∧ True) (by kernel_rfl) ⟨trivial, (by rw [i64_wrap (by omega) (by omega)]; omega), trivial, trivial, trivial⟩ ?_
            refine Exists.intro (k + 1, (n + x10)) ⟨⟨by omega, by rw [← iv, drop_cons hx11]; rfl, by have := hw _ (List.mem_of_getElem? hx11); omega, trivial⟩, by first | omega | (dsimp only; omega), le_turn [] [0, 1, 6, 22, 23, 24] [] (by kernel_rfl)⟩
      · skip
        have g18 : ¬ (((k : Nat) : Int) < ((ws.length : Nat) : Int)) := of_decide_eq_false (h7)
        refine T_exit ?_
        refine T_seq ?_
        refine T_reg [] [0, 1, 6, 39] [] (mk 89 [(0, (dt (I a))), (1, (dt (.sl 1 (ws.map encI)))), (6, (dt (I n))), (39, (dt (B (n == 0))))] []) (True ∧ True ∧ True ∧ True ∧ True) (by kernel_rfl) ⟨trivial, trivial, trivial, trivial, trivial⟩ ?_
        refine T_cond (n == 0) (by kernel_rfl) (fun h19 => ?_) (fun h19 => ?_)
        · skip
          have g20 : n = 0 := eq_of_beq (h19)
          exact (by exfalso; have := chkM_cases a; have h0 := sumL_nil ws; first | omega | (have := sumL_end iv (by omega); omega))
        · skip
          have g21 : n ≠ 0 := ne_of_beq_false (h19)
          refine T_skip ?_
          refine T_reg [] [0, 1, 6, 9] [] (mk 89 [(0, (dt (I a))), (1, (dt (.sl 1 (ws.map encI)))), (6, (dt (I n))), (9, (dt (I 1)))] []) (True ∧ True ∧ True) (by kernel_rfl) ⟨trivial, trivial, trivial⟩ ?_
          refine T_seq ?_
          refine T_reg [] [0, 1, 6, 9, 41] [] (mk 89 [(0, (dt (I a))), (1, (dt (.sl 1 (ws.map encI)))), (6, (dt (I n))), (9, (dt (I 1))), (41, (dt (B (decide (a < 0)))))] []) (True ∧ True ∧ True ∧ True ∧ True) (by kernel_rfl) ⟨trivial, trivial, trivial, trivial, trivial⟩ ?_
          refine T_cond (decide (a < 0)) (by kernel_rfl) (fun h22 => ?_) (fun h22 => ?_)
          · skip
            have g23 : a < 0 := of_decide_eq_true (h22)
            exact (by exfalso; have := chkM_cases a; have h0 := sumL_nil ws; first | omega | (have := sumL_end iv (by omega); omega))
          · skip
            have g24 : ¬ (a < 0) := of_decide_eq_false (h22)
            refine T_skip ?_
            refine T_reg [{}, {}, { d := some (I a) }] [1, 6, 9, 10] [] (mk 89 [(1, (dt (.sl 1 (ws.map encI)))), (6, (dt (I n))), (9, (dt (I 1))), (10, (.one (.ref 10 0)))] [(10, (.var [(.dat (I a))]))]) (True ∧ True ∧ True ∧ True ∧ True ∧ (IntKind.i64.wrap (1 * a) = a) ∧ True ∧ True ∧ True ∧ True ∧ True) (by kernel_rfl) ⟨trivial, trivial, trivial, trivial, trivial, (by rw [Int.one_mul]; exact (i64_wrap (by omega) (by omega))), trivial, trivial, trivial, trivial, trivial⟩ ?_
            refine T_seq (T_parts ?_)
            refine TL_arr 97 11 11 1 ((List.replicate 256 (0 : Int)).map encI) rfl rfl rfl (by kernel_rfl) (by kernel_rfl) (by decide) (by decide) ?_
            refine TL_turn [] [1, 6, 9, 10, 11] [] (mk 89 [(1, (dt (.sl 1 (ws.map encI)))), (6, (dt (I n))), (9, (dt (I 1))), (10, (.one (.ref 10 0))), (11, (.one (.rref 11 0 0)))] [(11, (.row 97 1 ((List.replicate 256 (0 : Int)).map encI))), (10, (.var [(.dat (I a))]))]) (by kernel_rfl) ?_
            refine TL_nilQ ?_
            refine T_turn [] [1, 6, 9, 10, 11] [] (mk 89 [(1, (dt (.sl 1 (ws.map encI)))), (6, (dt (I n))), (9, (dt (I 1))), (10, (.one (.ref 10 0))), (11, (.one (.rref 11 0 0)))] [(11, (.row 97 1 ((List.replicate 256 (0 : Int)).map encI))), (10, (.var [(.dat (I a))]))]) (by kernel_rfl) ?_
            refine T_reg [] [1, 6, 9, 10, 11, 12] [] (mk 89 [(1, (dt (.sl 1 (ws.map encI)))), (6, (dt (I n))), (9, (dt (I 1))), (10, (.one (.ref 10 0))), (11, (.one (.rref 11 0 0))), (12, (.one (.ref 12 0)))] [(12, (.var [(.dat nilS)])), (11, (.row 97 1 ((List.replicate 256 (0 : Int)).map encI))), (10, (.var [(.dat (I a))]))]) (True ∧ True ∧ True) (by kernel_rfl) ⟨trivial, trivial, trivial⟩ ?_
            refine T_seq ?_
            refine T_reg [{}, {}, {}, { d := some (.fn 76 [(.ptr [(.sl 1 (ws.map encI))]), (.ptr [(I a)]), (.ptr [(I n)])]) }] [1, 9, 10, 11, 12, 48] [] (mk 89 [(1, (dt (.sl 1 (ws.map encI)))), (9, (dt (I 1))), (10, (.one (.ref 10 0))), (11, (.one (.rref 11 0 0))), (12, (.one (.ref 12 0))), (48, (dt (.fn 76 [(.ptr [(.sl 1 (ws.map encI))]), (.ptr [(I a)]), (.ptr [(I n)])])))] [(12, (.var [(.dat nilS)])), (11, (.row 97 1 ((List.replicate 256 (0 : Int)).map encI))), (10, (.var [(.dat (I a))]))]) (True ∧ True ∧ True ∧ True ∧ True ∧ True ∧ True ∧ (Ret Try.prog 52 [(I a), (.sl 1 (ws.map encI)), (I n)] (.fn 76 [(.ptr [(.sl 1 (ws.map encI))]), (.ptr [(I a)]), (.ptr [(I n)])])) ∧ True) (by kernel_rfl) ⟨trivial, trivial, trivial, trivial, trivial, trivial, trivial, (ret_parts _ _ _), trivial⟩ ?_
            refine T_block ?_
            refine T_ownCell 12 0 142 103 3 (mk 89 [(1, (dt (.sl 1 (ws.map encI)))), (9, (dt (I 1))), (10, (.one (.ref 10 0))), (11, (.one (.rref 11 0 0))), (12, (.one (.ref 12 0))), (48, (dt (.fn 76 [(.ptr [(.sl 1 (ws.map encI))]), (.ptr [(I a)]), (.ptr [(I n)])])))] [(142, (.row 103 3 (([] : List Part).map encPart))), (12, (.var [(.own 142)])), (11, (.row 97 1 ((List.replicate 256 (0 : Int)).map encI))), (10, (.var [(.dat (I a))]))]) (by kernel_rfl) (by decide) ?_
            refine T_turn [] [1, 9, 10, 11, 12, 48] [] (mk 89 [(1, (dt (.sl 1 (ws.map encI)))), (9, (dt (I 1))), (10, (.one (.ref 10 0))), (11, (.one (.rref 11 0 0))), (12, (.one (.ref 12 0))), (48, (dt (.fn 76 [(.ptr [(.sl 1 (ws.map encI))]), (.ptr [(I a)]), (.ptr [(I n)])])))] [(142, (.row 103 3 (([] : List Part).map encPart))), (12, (.var [(.own 142)])), (11, (.row 97 1 ((List.replicate 256 (0 : Int)).map encI))), (10, (.var [(.dat (I (leftOf a ([] : List Part))))]))]) (by kernel_rfl) ?_
            refine T_range (α := Part) 89 76 [(.ptr [(.sl 1 (ws.map encI))]), (.ptr [(I a)]), (.ptr [(I n)])] valPart (fun x => (.agg [(.dat (I x.i)), (.dat (I x.c)), (.dat (I x.r))])) (partsOf a n ws) (fun pre => (mk 89 [(1, (dt (.sl 1 (ws.map encI)))), (9, (dt (I 1))), (10, (.one (.ref 10 0))), (11, (.one (.rref 11 0 0))), (12, (.one (.ref 12 0))), (48, (dt (.fn 76 [(.ptr [(.sl 1 (ws.map encI))]), (.ptr [(I a)]), (.ptr [(I n)])])))] [(142, (.row 103 3 (pre.map encPart))), (12, (.var [(.own 142)])), (11, (.row 97 1 ((List.replicate 256 (0 : Int)).map encI))), (10, (.var [(.dat (I (leftOf a pre)))]))])) _ (fun x w A M => part_rel x w A M) (by decide) rfl (fun pre _ => by kernel_rfl) (parts_iter a n ws (by have := sumL_end iv (by omega); omega) (by omega) ha ha2 hw hl) (fun r pre x hp25 => ?_) ?_
            · skip
              have hm := part_bounds2 ha ha2 (s := n) (by have := sumL_end iv (by omega); omega) hw hl (fun x hx => by have := le_sumL (fun y hy => (hw y hy).1) hx; have := sumL_end iv (by omega); omega) (prefix_mem hp25)
              have hpl := prefix_len hp25
              have hlf := leftOf_bounds ha ha2 (s := n) (by have := sumL_end iv (by omega); omega) hw hl (fun x hx => by have := le_sumL (fun y hy => (hw y hy).1) hx; have := sumL_end iv (by omega); omega) ((List.prefix_append _ _).trans hp25)
              have hpl2 := partsOf_length a n ws
              refine TI_region (by decide) (TL_turn [] [10, 12, 49] [] (mk 89 [(10, (.one (.ref 10 0))), (12, (.one (.ref 12 0))), (49, (.agg [(.dat (I x.i)), (.dat (I x.c)), (.dat (I x.r))]))] [(142, (.row 103 3 (pre.map encPart))), (12, (.var [(.own 142)])), (11, (.row 97 1 ((List.replicate 256 (0 : Int)).map encI))), (10, (.var [(.dat (I (leftOf a pre)))]))]) (by kernel_rfl) ?_)
              refine TL_part 2 [] (mk 89 [(10, (.one (.ref 10 0))), (12, (.one (.ref 12 0))), (13, (.one (.ref 102 0))), (49, (.agg [(.dat (I x.i)), (.dat (I x.c)), (.dat (I x.r))]))] [(102, (.var [(.dat (I x.i)), (.dat (I x.c)), (.dat (I x.r))])), (142, (.row 103 3 (pre.map encPart))), (12, (.var [(.own 142)])), (11, (.row 97 1 ((List.replicate 256 (0 : Int)).map encI))), (10, (.var [(.dat (I (leftOf a pre)))]))]) (True ∧ True ∧ True ∧ True ∧ True) (by kernel_rfl) ⟨trivial, trivial, trivial, trivial, trivial⟩ rfl ?_
              refine TL_nilQ ?_
              refine And.intro rfl ?_
              refine TI_block ?_
              refine TI_seq ?_
              refine TI_region (by decide) (TL_turn [] [10, 12, 13] [] (mk 89 [(10, (.one (.ref 10 0))), (12, (.one (.ref 12 0))), (13, (.one (.ref 102 0)))] [(102, (.var [(.dat (I x.i)), (.dat (I x.c)), (.dat (I x.r))])), (142, (.row 103 3 (pre.map encPart))), (12, (.var [(.own 142)])), (11, (.row 97 1 ((List.replicate 256 (0 : Int)).map encI))), (10, (.var [(.dat (I (leftOf a pre)))]))]) (by kernel_rfl) ?_)
              refine TL_part 5 [{}, {}, {}, { d := some (.sl 3 ((pre ++ [(⟨x.i, x.c, x.r⟩ : Part)]).map encPart)) }] (mk 89 [(10, (.one (.ref 10 0))), (12, (.one (.ref 12 0))), (13, (.one (.ref 102 0))), (51, (.agg [(.dat (I x.i)), (.dat (I x.c)), (.dat (I x.r))])), (52, (.one (.own 141))), (53, (.one (.own 142)))] [(142, (.row 103 3 ((pre ++ [(⟨x.i, x.c, x.r⟩ : Part)]).map encPart))), (141, (.row 103 3 ([(⟨x.i, x.c, x.r⟩ : Part)].map encPart))), (102, (.var [(.dat (I x.i)), (.dat (I x.c)), (.dat (I x.r))])), (12, (.var [(.own 142)])), (11, (.row 97 1 ((List.replicate 256 (0 : Int)).map encI))), (10, (.var [(.dat (I (leftOf a pre)))]))]) (True ∧ True ∧ True ∧ True ∧ True ∧ (dfill (fun i => some (i * 3, 3)) (List.replicate (1 * 3) .junk) [(0, [(.dat (I x.i)), (.dat (I x.c)), (.dat (I x.r))])] = some ((flat ([(⟨x.i, x.c, x.r⟩ : Part)].map encPart)).map .dat)) ∧ True ∧ (((pre.map encPart).length + ([(⟨x.i, x.c, x.r⟩ : Part)].map encPart).length) * 24 ≤ 140737488355328 ∧ cellsOne ([(⟨x.i, x.c, x.r⟩ : Part)].map encPart) ∧ (pre.map encPart) ++ [(⟨x.i, x.c, x.r⟩ : Part)].map encPart = (pre ++ [(⟨x.i, x.c, x.r⟩ : Part)]).map encPart) ∧ True ∧ True ∧ True) (by kernel_rfl) ⟨trivial, trivial, trivial, trivial, trivial, rfl, trivial, ⟨by simp only [List.length_map, List.length_nil, List.length_cons]; omega, encPart_one _, by simp⟩, trivial, trivial, trivial⟩ rfl ?_
              refine TL_nilQ ?_
              refine TI_region (by decide) (TL_turn [] [10, 13] [141] (mk 89 [(10, (.one (.ref 10 0))), (13, (.one (.ref 102 0)))] [(142, (.row 103 3 ((pre ++ [(⟨x.i, x.c, x.r⟩ : Part)]).map encPart))), (102, (.var [(.dat (I x.i)), (.dat (I x.c)), (.dat (I x.r))])), (12, (.var [(.own 142)])), (11, (.row 97 1 ((List.replicate 256 (0 : Int)).map encI))), (10, (.var [(.dat (I (leftOf a pre)))]))]) (by kernel_rfl) ?_)
              refine TL_part 5 [{}, {}, {}, { d := some (I ((leftOf a pre) - x.c)) }] (mk 89 [(10, (.one (.ref 10 0))), (13, (.one (.ref 102 0))), (54, (dt (I (leftOf a pre)))), (55, (.one (.ref 102 1))), (56, (dt (I x.c))), (57, (dt (I ((leftOf a pre) - x.c))))] [(142, (.row 103 3 ((pre ++ [(⟨x.i, x.c, x.r⟩ : Part)]).map encPart))), (102, (.var [(.dat (I x.i)), (.dat (I x.c)), (.dat (I x.r))])), (12, (.var [(.own 142)])), (11, (.row 97 1 ((List.replicate 256 (0 : Int)).map encI))), (10, (.var [(.dat (I ((leftOf a pre) - x.c)))]))]) (True ∧ True ∧ True ∧ True ∧ True ∧ True ∧ True ∧ (IntKind.i64.wrap ((leftOf a pre) - x.c) = ((leftOf a pre) - x.c)) ∧ True ∧ True ∧ True) (by kernel_rfl) ⟨trivial, trivial, trivial, trivial, trivial, trivial, trivial, (i64_wrap (by omega) (by omega)), trivial, trivial, trivial⟩ rfl ?_
              refine TL_nilQ ?_
              refine And.intro rfl ?_
              exact (le_turn (s' := (mk 89 [(1, (dt (.sl 1 (ws.map encI)))), (9, (dt (I 1))), (10, (.one (.ref 10 0))), (11, (.one (.rref 11 0 0))), (12, (.one (.ref 12 0))), (48, (dt (.fn 76 [(.ptr [(.sl 1 (ws.map encI))]), (.ptr [(I a)]), (.ptr [(I n)])])))] [(142, (.row 103 3 ((pre ++ [(⟨x.i, x.c, x.r⟩ : Part)]).map encPart))), (12, (.var [(.own 142)])), (11, (.row 97 1 ((List.replicate 256 (0 : Int)).map encI))), (10, (.var [(.dat (I ((leftOf a pre) - x.c)))]))])) [] [1, 9, 10, 11, 12, 48] [102] (by kernel_rfl)).trans (DS.le_of_eq (by simp only [leftOf_snoc]))
            refine T_seq (T_parts ?_)
            refine TL_part 1 [] (mk 89 [(1, (dt (.sl 1 (ws.map encI)))), (9, (dt (I 1))), (10, (.one (.ref 10 0))), (11, (.one (.rref 11 0 0))), (12, (.one (.ref 12 0))), (48, (dt (.fn 76 [(.ptr [(.sl 1 (ws.map encI))]), (.ptr [(I a)]), (.ptr [(I n)])]))), (58, (.one (.own 142)))] [(142, (.row 103 3 ((partsOf a n ws).map encPart))), (12, (.var [(.own 142)])), (11, (.row 97 1 ((List.replicate 256 (0 : Int)).map encI))), (10, (.var [(.dat (I (leftOf a (partsOf a n ws))))]))]) (True ∧ True ∧ True) (by kernel_rfl) ⟨trivial, trivial, trivial⟩ rfl ?_
            refine TL_sort (enc := encPart) (R := sortR) 53 54 103 3 sort_ok rfl rfl (by kernel_rfl) 142 (by kernel_rfl) (by kernel_rfl) (partsOf a n ws) (by kernel_rfl) (parts_ne hs) (by rw [partsOf_length]; omega) (fun _ => ⟨rfl, rfl⟩) (fun d26 hR27 hl28 => ?_)
            refine TL_turn [] [1, 9, 10, 11, 12, 59] [] (mk 89 [(1, (dt (.sl 1 (ws.map encI)))), (9, (dt (I 1))), (10, (.one (.ref 10 0))), (11, (.one (.rref 11 0 0))), (12, (.one (.ref 12 0))), (59, (dt (.tup [])))] [(142, (.row 103 3 (d26.map encPart))), (12, (.var [(.own 142)])), (11, (.row 97 1 ((List.replicate 256 (0 : Int)).map encI))), (10, (.var [(.dat (I (leftOf a (partsOf a n ws))))]))]) (by kernel_rfl) ?_
            refine TL_nilQ ?_
            refine T_turn [] [1, 9, 10, 11, 12] [] (mk 89 [(1, (dt (.sl 1 (ws.map encI)))), (9, (dt (I 1))), (10, (.one (.ref 10 0))), (11, (.one (.rref 11 0 0))), (12, (.one (.ref 12 0)))] [(142, (.row 103 3 (d26.map encPart))), (12, (.var [(.own 142)])), (11, (.row 97 1 ((List.replicate 256 (0 : Int)).map encI))), (10, (.var [(.dat (I (leftOf a (partsOf a n ws))))]))]) (by kernel_rfl) ?_
            refine T_seq ?_
            refine T_reg [{}, { d := some (I ((d26.length : Nat) : Int)) }] [1, 9, 10, 11, 60, 61, 62] [12] (mk 89 [(1, (dt (.sl 1 (ws.map encI)))), (9, (dt (I 1))), (10, (.one (.ref 10 0))), (11, (.one (.rref 11 0 0))), (60, (.one (.own 142))), (61, (dt (I ((d26.length : Nat) : Int)))), (62, (dt (I 0)))] [(142, (.row 103 3 (d26.map encPart))), (11, (.row 97 1 ((List.replicate 256 (0 : Int)).map encI))), (10, (.var [(.dat (I (leftOf a (partsOf a n ws))))]))]) (True ∧ True ∧ True ∧ (True ∧ D.int .i64 ((d26.map encPart).length : Int) = (I ((d26.length : Nat) : Int))) ∧ True ∧ True ∧ True) (by kernel_rfl) ⟨trivial, trivial, trivial, ⟨trivial, by rw [List.length_map]⟩, trivial, trivial, trivial⟩ ?_
            refine T_block ?_
            refine T_turn [] [1, 9, 10, 11, 60, 61, 62] [] ((fun ((k, cs) : Nat × List Int) => (mk 89 [(1, (dt (.sl 1 (ws.map encI)))), (9, (dt (I 1))), (10, (.one (.ref 10 0))), (11, (.one (.rref 11 0 0))), (60, (.one (.own 142))), (61, (dt (I ((d26.length : Nat) : Int)))), (62, (dt (I ((k : Nat) : Int))))] [(142, (.row 103 3 (d26.map encPart))), (11, (.row 97 1 (cs.map encI))), (10, (.var [(.dat (I (leftOf a (partsOf a n ws))))]))])) (0, (List.replicate 256 (0 : Int)))) (by kernel_rfl) (T_loop (α := Nat × List Int) (fun ((k, cs) : Nat × List Int) => (mk 89 [(1, (dt (.sl 1 (ws.map encI)))), (9, (dt (I 1))), (10, (.one (.ref 10 0))), (11, (.one (.rref 11 0 0))), (60, (.one (.own 142))), (61, (dt (I ((d26.length : Nat) : Int)))), (62, (dt (I ((k : Nat) : Int))))] [(142, (.row 103 3 (d26.map encPart))), (11, (.row 97 1 (cs.map encI))), (10, (.var [(.dat (I (leftOf a (partsOf a n ws))))]))])) (fun ((k, cs) : Nat × List Int) => (k ≤ d26.length) ∧ (cs.length = 256) ∧ (Filled (leftOf a (partsOf a n ws)) d26 k cs) ∧ True) (fun ((k, cs) : Nat × List Int) => d26.length - k) (0, (List.replicate 256 (0 : Int))) ⟨Nat.zero_le _, List.length_replicate, fill_start _ _ _, trivial⟩ ?_)
            rintro ⟨k, cs⟩ ⟨ik, ic, iv2, _⟩
            refine T_reg [] [1, 9, 10, 11, 60, 61, 62, 63] [] (mk 89 [(1, (dt (.sl 1 (ws.map encI)))), (9, (dt (I 1))), (10, (.one (.ref 10 0))), (11, (.one (.rref 11 0 0))), (60, (.one (.own 142))), (61, (dt (I ((d26.length : Nat) : Int)))), (62, (dt (I ((k : Nat) : Int)))), (63, (dt (B (decide (((k : Nat) : Int) < ((d26.length : Nat) : Int))))))] [(142, (.row 103 3 (d26.map encPart))), (11, (.row 97 1 (cs.map encI))), (10, (.var [(.dat (I (leftOf a (partsOf a n ws))))]))]) (True ∧ True ∧ True) (by kernel_rfl) ⟨trivial, trivial, trivial⟩ ?_
            refine T_seq ?_
            refine T_cond (decide (((k : Nat) : Int) < ((d26.length : Nat) : Int))) (by kernel_rfl) (fun h29 => ?_) (fun h29 => ?_)
            · skip
              have g30 : ((k : Nat) : Int) < ((d26.length : Nat) : Int) := of_decide_eq_true (h29)
              refine T_skip ?_
              refine T_seq ?_
              refine T_block ?_
              have lt31 : k < (d26).length := by first | omega | (simp only [List.length_set, List.length_map, List.length_append, List.length_cons, List.length_nil] at *; omega)
              obtain ⟨x32, hx33⟩ : ∃ x, (d26)[k]? = some x := ⟨_, List.getElem?_eq_getElem lt31⟩
              have hbx := part_bounds2 ha ha2 (s := n) (by have := sumL_end iv (by omega); omega) hw hl (fun x hx => by have := le_sumL (fun y hy => (hw y hy).1) hx; have := sumL_end iv (by omega); omega) (hR27.1.mem_iff.1 (List.mem_of_getElem? hx33))
              have hpl3 := partsOf_length a n ws
              have hlf3 := leftOf_bounds ha ha2 (s := n) (by have := sumL_end iv (by omega); omega) hw hl (fun x hx => by have := le_sumL (fun y hy => (hw y hy).1) hx; have := sumL_end iv (by omega); omega) (List.prefix_refl _)
              refine T_reg [{}, {}, { d := some (.agg [(I x32.i), (I x32.c), (I x32.r)]) }] [1, 9, 10, 11, 14, 15, 60, 61, 62] [] (mk 89 [(1, (dt (.sl 1 (ws.map encI)))), (9, (dt (I 1))), (10, (.one (.ref 10 0))), (11, (.one (.rref 11 0 0))), (14, (dt (I ((k : Nat) : Int)))), (15, (.one (.ref 15 0))), (60, (.one (.own 142))), (61, (dt (I ((d26.length : Nat) : Int)))), (62, (dt (I ((k : Nat) : Int))))] [(15, (.var [(.dat (I x32.i)), (.dat (I x32.c)), (.dat (I x32.r))])), (142, (.row 103 3 (d26.map encPart))), (11, (.row 97 1 (cs.map encI))), (10, (.var [(.dat (I (leftOf a (partsOf a n ws))))]))]) (True ∧ True ∧ True ∧ (0 ≤ ((k : Nat) : Int) ∧ ((k : Nat) : Int) < (((d26.map encPart).length : Nat) : Int)) ∧ True ∧ ((d26.map encPart)[k]? = some (.agg [(I x32.i), (I x32.c), (I x32.r)])) ∧ True ∧ True ∧ True ∧ True ∧ True ∧ True ∧ True) (by kernel_rfl) ⟨trivial, trivial, trivial, ⟨by omega, by rw [List.length_map]; first | omega | (simp only [List.length_append, List.length_set, List.length_map, List.length_cons, List.length_nil] at *; omega)⟩, trivial, (by rw [List.getElem?_map, hx33]; rfl), trivial, trivial, trivial, trivial, trivial, trivial, trivial⟩ ?_
              have lt34 : (x32.i).toNat < (cs).length := by first | omega | (simp only [List.length_set, List.length_map, List.length_append, List.length_cons, List.length_nil] at *; omega)
              obtain ⟨x35, hx36⟩ : ∃ x, (cs)[(x32.i).toNat]? = some x := ⟨_, List.getElem?_eq_getElem lt34⟩
              refine T_reg [{}, {}, {}, {}, {}, { d := some (I x32.c) }, {}, { d := some (.tup [(I x35), (.sl 1 ((cs.set (x32.i).toNat x32.c).map encI))]) }] [1, 9, 10, 11, 14, 15, 60, 61, 62] [] (mk 89 [(1, (dt (.sl 1 (ws.map encI)))), (9, (dt (I 1))), (10, (.one (.ref 10 0))), (11, (.one (.rref 11 0 0))), (14, (dt (I ((k : Nat) : Int)))), (15, (.one (.ref 15 0))), (60, (.one (.own 142))), (61, (dt (I ((d26.length : Nat) : Int)))), (62, (dt (I ((k : Nat) : Int))))] [(15, (.var [(.dat (I x32.i)), (.dat (I x32.c)), (.dat (I x32.r))])), (142, (.row 103 3 (d26.map encPart))), (11, (.row 97 1 ((cs.set (x32.i).toNat x32.c).map encI))), (10, (.var [(.dat (I (leftOf a (partsOf a n ws))))]))]) (True ∧ True ∧ True ∧ True ∧ True ∧ True ∧ True ∧ True ∧ True ∧ True ∧ True ∧ (IntKind.i64.wrap (1 * x32.c) = x32.c) ∧ True ∧ (0 ≤ x32.i ∧ x32.i < ((256 : Nat) : Int)) ∧ True ∧ ((cs.map encI)[(x32.i).toNat]? = some (I x35) ∧ (cs.map encI).set (x32.i).toNat (I x32.c) = (cs.set (x32.i).toNat x32.c).map encI) ∧ True) (by kernel_rfl) ⟨trivial, trivial, trivial, trivial, trivial, trivial, trivial, trivial, trivial, trivial, trivial, (by rw [Int.one_mul]; exact (i64_wrap (by omega) (by omega))), trivial, ⟨by omega, by omega⟩, trivial, ⟨by rw [List.getElem?_map, hx36]; rfl, by simp only [List.map_set]; first | done | rfl⟩, trivial⟩ ?_
              refine T_reg [] [1, 9, 10, 11, 15, 60, 61, 62, 76] [] (mk 89 [(1, (dt (.sl 1 (ws.map encI)))), (9, (dt (I 1))), (10, (.one (.ref 10 0))), (11, (.one (.rref 11 0 0))), (15, (.one (.ref 15 0))), (60, (.one (.own 142))), (61, (dt (I ((d26.length : Nat) : Int)))), (62, (dt (I ((k : Nat) : Int)))), (76, (dt (B (decide (((k : Nat) : Int) < (leftOf a (partsOf a n ws)))))))] [(15, (.var [(.dat (I x32.i)), (.dat (I x32.c)), (.dat (I x32.r))])), (142, (.row 103 3 (d26.map encPart))), (11, (.row 97 1 ((cs.set (x32.i).toNat x32.c).map encI))), (10, (.var [(.dat (I (leftOf a (partsOf a n ws))))]))]) (True ∧ True ∧ True ∧ True ∧ True ∧ True ∧ True) (by kernel_rfl) ⟨trivial, trivial, trivial, trivial, trivial, trivial, trivial⟩ ?_
              refine T_cond (decide (((k : Nat) : Int) < (leftOf a (partsOf a n ws)))) (by kernel_rfl) (fun h37 => ?_) (fun h37 => ?_)
              · skip
                have g38 : ((k : Nat) : Int) < (leftOf a (partsOf a n ws)) := of_decide_eq_true (h37)
                have hs39 : ((cs.set (x32.i).toNat x32.c))[(x32.i).toNat]? = some x32.c := by rw [List.getElem?_set_self (by omega)]
                refine T_regE [{}, {}, {}, { d := some (I x32.c) }, {}, { d := some (I (x32.c + 1)) }, {}, { d := some (.tup [(I x32.c), (.sl 1 (((cs.set (x32.i).toNat x32.c).set (x32.i).toNat (x32.c + 1)).map encI))]) }] (mk 89 [(1, (dt (.sl 1 (ws.map encI)))), (9, (dt (I 1))), (10, (.one (.ref 10 0))), (11, (.one (.rref 11 0 0))), (15, (.one (.ref 15 0))), (60, (.one (.own 142))), (61, (dt (I ((d26.length : Nat) : Int)))), (62, (dt (I ((k : Nat) : Int)))), (76, (dt (B (decide (((k : Nat) : Int) < (leftOf a (partsOf a n ws))))))), (77, (.one (.ref 15 0))), (78, (dt (I x32.i))), (79, (.one (.rref 11 (x32.i).toNat 0))), (80, (dt (I x32.c))), (81, (dt (I 1))), (82, (dt (I (x32.c + 1)))), (83, (.one (.rref 11 (x32.i).toNat 0)))] [(15, (.var [(.dat (I x32.i)), (.dat (I x32.c)), (.dat (I x32.r))])), (142, (.row 103 3 (d26.map encPart))), (11, (.row 97 1 (((cs.set (x32.i).toNat x32.c).set (x32.i).toNat (x32.c + 1)).map encI))), (10, (.var [(.dat (I (leftOf a (partsOf a n ws))))]))]) (True ∧ True ∧ True ∧ True ∧ True ∧ (0 ≤ x32.i ∧ x32.i < ((256 : Nat) : Int)) ∧ True ∧ (((cs.set (x32.i).toNat x32.c).map encI)[(x32.i).toNat]? = some (I x32.c)) ∧ True ∧ True ∧ True ∧ (IntKind.i64.wrap (x32.c + 1) = (x32.c + 1)) ∧ True ∧ (0 ≤ x32.i ∧ x32.i < ((256 : Nat) : Int)) ∧ True ∧ (((cs.set (x32.i).toNat x32.c).map encI)[(x32.i).toNat]? = some (I x32.c) ∧ ((cs.set (x32.i).toNat x32.c).map encI).set (x32.i).toNat (I (x32.c + 1)) = ((cs.set (x32.i).toNat x32.c).set (x32.i).toNat (x32.c + 1)).map encI) ∧ True) (by kernel_rfl) ⟨trivial, trivial, trivial, trivial, trivial, ⟨by omega, by omega⟩, trivial, (by rw [List.getElem?_map, hs39]; rfl), trivial, trivial, trivial, (i64_wrap (by omega) (by omega)), trivial, ⟨by omega, by omega⟩, trivial, ⟨by rw [List.getElem?_map, hs39]; rfl, by simp only [List.map_set]; first | done | rfl⟩, trivial⟩ ?_
                refine T_regE [{ d := some (I ((k + 1 : Nat) : Int)) }] (mk 89 [(1, (dt (.sl 1 (ws.map encI)))), (9, (dt (I 1))), (10, (.one (.ref 10 0))), (11, (.one (.rref 11 0 0))), (15, (.one (.ref 15 0))), (60, (.one (.own 142))), (61, (dt (I ((d26.length : Nat) : Int)))), (62, (dt (I ((k + 1 : Nat) : Int)))), (76, (dt (B (decide (((k : Nat) : Int) < (leftOf a (partsOf a n ws))))))), (77, (.one (.ref 15 0))), (78, (dt (I x32.i))), (79, (.one (.rref 11 (x32.i).toNat 0))), (80, (dt (I x32.c))), (81, (dt (I 1))), (82, (dt (I (x32.c + 1)))), (83, (.one (.rref 11 (x32.i).toNat 0))), (84, (dt (I ((k + 1 : Nat) : Int))))] [(15, (.var [(.dat (I x32.i)), (.dat (I x32.c)), (.dat (I x32.r))])), (142, (.row 103 3 (d26.map encPart))), (11, (.row 97 1 (((cs.set (x32.i).toNat x32.c).set (x32.i).toNat (x32.c + 1)).map encI))), (10, (.var [(.dat (I (leftOf a (partsOf a n ws))))]))]) (True ∧ (IntKind.i64.wrap (((k : Nat) : Int) + 1) = ((k + 1 : Nat) : Int)) ∧ True ∧ True ∧ True) (by kernel_rfl) ⟨trivial, (by rw [i64_wrap (by omega) (by omega)]; omega), trivial, trivial, trivial⟩ ?_
                refine Exists.intro (k + 1, ((cs.set (x32.i).toNat x32.c).set (x32.i).toNat (x32.c + 1))) ⟨⟨by omega, by simp only [List.length_set]; exact ic, by first | exact fill_more iv2 hR27 hx33 ic hl (by omega) | exact fill_less iv2 hR27 hx33 ic hl (by omega), trivial⟩, by first | omega | (dsimp only; omega), le_turn [] [1, 9, 10, 11, 60, 61, 62] [15] (by kernel_rfl)⟩
              · skip
                have g40 : ¬ (((k : Nat) : Int) < (leftOf a (partsOf a n ws))) := of_decide_eq_false (h37)
                refine T_skip ?_
                refine T_regE [{ d := some (I ((k + 1 : Nat) : Int)) }] (mk 89 [(1, (dt (.sl 1 (ws.map encI)))), (9, (dt (I 1))), (10, (.one (.ref 10 0))), (11, (.one (.rref 11 0 0))), (15, (.one (.ref 15 0))), (60, (.one (.own 142))), (61, (dt (I ((d26.length : Nat) : Int)))), (62, (dt (I ((k + 1 : Nat) : Int)))), (76, (dt (B (decide (((k : Nat) : Int) < (leftOf a (partsOf a n ws))))))), (84, (dt (I ((k + 1 : Nat) : Int))))] [(15, (.var [(.dat (I x32.i)), (.dat (I x32.c)), (.dat (I x32.r))])), (142, (.row 103 3 (d26.map encPart))), (11, (.row 97 1 ((cs.set (x32.i).toNat x32.c).map encI))), (10, (.var [(.dat (I (leftOf a (partsOf a n ws))))]))]) (True ∧ (IntKind.i64.wrap (((k : Nat) : Int) + 1) = ((k + 1 : Nat) : Int)) ∧ True ∧ True ∧ True) (by kernel_rfl) ⟨trivial, (by rw [i64_wrap (by omega) (by omega)]; omega), trivial, trivial, trivial⟩ ?_
                refine Exists.intro (k + 1, (cs.set (x32.i).toNat x32.c)) ⟨⟨by omega, by simp only [List.length_set]; exact ic, by first | exact fill_more iv2 hR27 hx33 ic hl (by omega) | exact fill_less iv2 hR27 hx33 ic hl (by omega), trivial⟩, by first | omega | (dsimp only; omega), le_turn [] [1, 9, 10, 11, 60, 61, 62] [15] (by kernel_rfl)⟩
            · skip
              have g41 : ¬ (((k : Nat) : Int) < ((d26.length : Nat) : Int)) := of_decide_eq_false (h29)
              refine T_exit ?_
              refine T_seq (T_parts ?_)
              refine TL_part 2 [{}, { d := some (I ((ws.length : Nat) : Int)) }] (mk 89 [(1, (dt (.sl 1 (ws.map encI)))), (9, (dt (I 1))), (10, (.one (.ref 10 0))), (11, (.one (.rref 11 0 0))), (60, (.one (.own 142))), (61, (dt (I ((d26.length : Nat) : Int)))), (62, (dt (I ((k : Nat) : Int)))), (63, (dt (B (decide (((k : Nat) : Int) < ((d26.length : Nat) : Int)))))), (85, (dt (.sl 1 (ws.map encI)))), (86, (dt (I ((ws.length : Nat) : Int))))] [(142, (.row 103 3 (d26.map encPart))), (11, (.row 97 1 (cs.map encI))), (10, (.var [(.dat (I (leftOf a (partsOf a n ws))))]))]) (True ∧ True ∧ True ∧ (True ∧ D.int .i64 ((ws.map encI).length : Int) = (I ((ws.length : Nat) : Int))) ∧ True) (by kernel_rfl) ⟨trivial, trivial, trivial, ⟨trivial, by rw [List.length_map]⟩, trivial⟩ rfl ?_
              refine TL_arrSlice 97 87 11 1 256 3 97 (cs.map encI) ((cs.take ws.length).map encI) _ _ (ws.length) rfl rfl rfl (by kernel_rfl) (by kernel_rfl) (by kernel_rfl) (by kernel_rfl) (by kernel_rfl) (by rw [List.length_map]; exact ic) (by decide) (by omega) (by rw [List.map_take]) ?_
              refine TL_turn [] [4, 5, 87, 88] [142, 10] (mk 89 [(87, (dt (.sl 1 ((cs.take ws.length).map encI))))] []) (by kernel_rfl) ?_
              refine TL_part 3 [{ d := some (.sl 1 ((cs.take ws.length).map encI)) }] (mk 89 [(4, (dt (.sl 1 ((cs.take ws.length).map encI)))), (5, (dt (I 0))), (87, (dt (.sl 1 ((cs.take ws.length).map encI)))), (88, (dt (.sl 1 ((cs.take ws.length).map encI))))] []) (True ∧ (Ret Try.prog 55 [(.sl 1 ((cs.take ws.length).map encI))] (.sl 1 ((cs.take ws.length).map encI))) ∧ True ∧ True ∧ True ∧ True ∧ True) (by kernel_rfl) ⟨trivial, (ret_cloneI _ (by simp only [List.length_take]; omega)), trivial, trivial, trivial, trivial, trivial⟩ rfl ?_
              refine TL_nilQ ?_
              refine T_turn [] [4, 5] [] (mk 89 [(4, (dt (.sl 1 ((cs.take ws.length).map encI)))), (5, (dt (I 0)))] []) (by kernel_rfl) ?_
              refine T_ret ?_
              exact ret_here [(dt (.sl 1 ((cs.take ws.length).map encI))), (dt (I 0))] (by kernel_rfl) ⟨(.inl (congrArg (fun l => D.sl 1 (l.map encI)) ((by rw [← sumL_end iv (by omega)]; exact filled_end iv2 (by assumption) ic hl (by omega)) : (cs.take ws.length) = (splitW a (sumL 0 ws) ws)))), (.inl rfl), trivial⟩

end Go.Proofs.Ytoiiblkncbnlaaa

/-
  The plain data of chapter 42 and what its checks compute. Conditions: those of each theorem.
-/
set_option linter.unusedVariables false
set_option linter.unusedSimpArgs false
namespace Go.Proofs.Ytoiiblkncbnlaaa
open Go.DL
structure Row where
  c : Int
  pl : Int
  wo : Int
  dr : Int
  lo : Int
  fo : Int
  ag : Int
  af : Int
  aw : Int
  ca : Int
  po : Int
  deriving DecidableEq
structure Place where
  k : Int
  b : Int
  z : List UInt8
  r : Row
  deriving DecidableEq
structure Tab where
  s : Int
  c : Int
  l : List Place
  deriving DecidableEq
structure Prize where
  f : Int
  t : Int
  a : Int
  deriving DecidableEq
structure Sch where
  c : Int
  p : List Prize
  u : Int
  d : Int
  ab : Int
  be : Int
  deriving DecidableEq
def Place.cs (p : Place) : List D := [I p.k, I p.b, .str p.z, I p.r.c, I p.r.pl, I p.r.wo, I p.r.dr, I p.r.lo, I p.r.fo, I p.r.ag, I p.r.af, I p.r.aw, I p.r.ca, I p.r.po]
def encPlace (p : Place) : D := .agg [I p.k, I p.b, .str p.z, I p.r.c, I p.r.pl, I p.r.wo, I p.r.dr, I p.r.lo, I p.r.fo, I p.r.ag, I p.r.af, I p.r.aw, I p.r.ca, I p.r.po]
def encPrize (p : Prize) : D := .agg [I p.f, I p.t, I p.a]
def encTab (t : Tab) : D := .agg [I t.s, I t.c, .sl 14 (t.l.map encPlace)]
def encSch (s : Sch) : D := .agg [I s.c, .sl 3 (s.p.map encPrize), I s.u, I s.d, I s.ab, I s.be]
theorem encPlace_one (l : List Place) : cellsOne (l.map encPlace) := by
  intro d hd c hc; obtain ⟨x, _, rfl⟩ := List.mem_map.1 hd; simp [encPlace, D.cells] at hc; rcases hc with rfl | rfl | rfl | rfl | rfl | rfl | rfl | rfl | rfl | rfl | rfl | rfl | rfl | rfl <;> rfl
/-! ## tables -/
def nums (r : Row) : List Int := [r.pl, r.wo, r.dr, r.lo, r.fo, r.ag, r.af, r.aw, r.ca]
def inR (n : Int) : Bool := decide (0 ≤ n ∧ n ≤ 9999)
def rowOK (r : Row) : Bool := (nums r).all inR && decide (0 ≤ r.c ∧ r.c ≤ 191 ∧ -99999 ≤ r.po ∧ r.po ≤ 99999)
def shapeOK (k : Nat) (q p : Place) : Prop := (k = 0 ∧ p.k = 1 ∧ p.b = 0) ∨ (0 < k ∧ p.k = q.k ∧ p.b = 0 ∧ q.r.c < p.r.c) ∨ (0 < k ∧ p.k ≠ q.k ∧ p.k = (k : Int) + 1 ∧ 1 ≤ p.b ∧ p.b ≤ 12)
instance (k : Nat) (q p : Place) : Decidable (shapeOK k q p) := by unfold shapeOK; infer_instance
def noPlace : Place := ⟨0, 0, [], ⟨0, 0, 0, 0, 0, 0, 0, 0, 0, 0, 0⟩⟩
def placeOK (k : Nat) (q : Place) (seen : List Int) (p : Place) : Prop := shapeOK k q p ∧ p.z.length ≤ 24 ∧ rowOK p.r = true ∧ p.r.c ∉ seen
instance (k : Nat) (q p : Place) (s : List Int) : Decidable (placeOK k q s p) := by unfold placeOK; infer_instance
def plOK (k : Nat) (q : Place) (seen : List Int) : List Place → Bool
  | [] => true
  | p :: l => if placeOK k q seen p then plOK (k + 1) p (seen ++ [p.r.c]) l else false
def clubOf (p : Place) : Int := p.r.c
def headT (t : Tab) : Prop := 0 ≤ t.s ∧ t.s ≤ 63 ∧ 0 ≤ t.c ∧ t.c ≤ 15 ∧ 2 ≤ t.l.length ∧ t.l.length ≤ 24
instance (t : Tab) : Decidable (headT t) := by unfold headT; infer_instance
def chkT (t : Tab) : Int := if headT t then (if plOK 0 noPlace [] t.l then 0 else 1) else 1
theorem plOK_stop {l : List Place} {k : Nat} {q x : Place} (h : plOK k q ((l.take k).map clubOf) (l.drop k) = plOK 0 noPlace [] l) (hx : l[k]? = some x) (hb : ¬ placeOK k q ((l.take k).map clubOf) x) : plOK 0 noPlace [] l = false := by
  rw [← h, drop_cons hx, plOK, if_neg hb]
theorem plOK_step {l : List Place} {k : Nat} {q x : Place} (h : plOK k q ((l.take k).map clubOf) (l.drop k) = plOK 0 noPlace [] l) (hx : l[k]? = some x) (hb : placeOK k q ((l.take k).map clubOf) x) : plOK (k + 1) x ((l.take (k + 1)).map clubOf) (l.drop (k + 1)) = plOK 0 noPlace [] l := by
  rw [← h, drop_cons hx, plOK, if_pos hb, take_snoc hx, List.map_append]; rfl
theorem plOK_end {l : List Place} {k : Nat} {q : Place} (h : plOK k q ((l.take k).map clubOf) (l.drop k) = plOK 0 noPlace [] l) (hk : l.length ≤ k) : plOK 0 noPlace [] l = true := by
  rw [← h, List.drop_eq_nil_of_le hk]; rfl
theorem chkT_bad {t : Tab} (h : ¬ headT t) : (1 : Int) = chkT t := by rw [chkT, if_neg h]
theorem chkT_bad2 {t : Tab} (h : plOK 0 noPlace [] t.l = false) : (1 : Int) = chkT t := by rw [chkT]; split <;> simp [h]
theorem chkT_ok {t : Tab} (h : headT t) (h2 : plOK 0 noPlace [] t.l = true) : (0 : Int) = chkT t := by rw [chkT, if_pos h, if_pos h2]
theorem chkT_cases (t : Tab) : chkT t = 1 ∨ (chkT t = 0 ∧ headT t ∧ plOK 0 noPlace [] t.l = true) := by
  unfold chkT; split
  · split
    · exact .inr ⟨rfl, by assumption, by assumption⟩
    · exact .inl rfl
  · exact .inl rfl
theorem all_stop {l : List Int} {k : Nat} {x : Int} (h : (l.drop k).all inR = l.all inR) (hx : l[k]? = some x) (hb : x < 0 ∨ 9999 < x) : l.all inR = false := by
  rw [← h, drop_cons hx, List.all_cons, show inR x = false from decide_eq_false (by omega), Bool.false_and]
theorem all_step {l : List Int} {k : Nat} {x : Int} (h : (l.drop k).all inR = l.all inR) (hx : l[k]? = some x) (hb : 0 ≤ x ∧ x ≤ 9999) : (l.drop (k + 1)).all inR = l.all inR := by
  rw [← h, drop_cons hx, List.all_cons, show inR x = true from decide_eq_true hb, Bool.true_and]
theorem all_end {l : List Int} {k : Nat} (h : (l.drop k).all inR = l.all inR) (hk : l.length ≤ k) : l.all inR = true := by
  rw [← h, List.drop_eq_nil_of_le hk]; rfl

/-! ## schemes -/
def prOK (last : Int) : List Prize → Bool
  | [] => true
  | p :: l => if p.f ≤ last ∨ p.t < p.f ∨ p.t > 24 ∨ p.a < 1 ∨ p.a > 1125899906842624 then false else prOK p.t l
def sumA (l : List Prize) : Int := sumL 0 (l.map (·.a))
def headS (s : Sch) : Prop := 0 ≤ s.c ∧ s.c ≤ 7 ∧ s.p.length ≤ 24 ∧ 0 ≤ s.u ∧ s.u ≤ 24 ∧ 0 ≤ s.d ∧ s.d ≤ 24
def tailS (s : Sch) : Prop := -1 ≤ s.ab ∧ s.ab ≤ 7 ∧ -1 ≤ s.be ∧ s.be ≤ 7 ∧ s.ab ≠ s.c ∧ s.be ≠ s.c ∧ (s.ab = s.be → s.ab = -1) ∧ (s.ab = -1 → s.u = 0) ∧ (s.be = -1 → s.d = 0)
instance (s : Sch) : Decidable (headS s) := by unfold headS; infer_instance
instance (s : Sch) : Decidable (tailS s) := by unfold tailS; infer_instance
def chkS (s : Sch) : Int := if headS s ∧ tailS s ∧ prOK 0 s.p = true ∧ sumA s.p ≤ 1125899906842624 then 0 else 420
theorem chkS_cases (s : Sch) : chkS s = 420 ∨ (chkS s = 0 ∧ headS s ∧ tailS s ∧ prOK 0 s.p = true ∧ sumA s.p ≤ 1125899906842624) := by
  unfold chkS; split
  · exact .inr ⟨rfl, by assumption⟩
  · exact .inl rfl
theorem prOK_stop {l : List Prize} {k : Nat} {x : Prize} {p : Int} (h : prOK p (l.drop k) = prOK 0 l) (hx : l[k]? = some x) (hb : x.f ≤ p ∨ x.t < x.f ∨ x.t > 24 ∨ x.a < 1 ∨ x.a > 1125899906842624) : prOK 0 l = false := by
  rw [← h, drop_cons hx, prOK, if_pos hb]
theorem prOK_step {l : List Prize} {k : Nat} {x : Prize} {p : Int} (h : prOK p (l.drop k) = prOK 0 l) (hx : l[k]? = some x) (hb : ¬ (x.f ≤ p ∨ x.t < x.f ∨ x.t > 24 ∨ x.a < 1 ∨ x.a > 1125899906842624)) : prOK x.t (l.drop (k + 1)) = prOK 0 l := by
  rw [← h, drop_cons hx, prOK, if_neg hb]
theorem prOK_end {l : List Prize} {k : Nat} {p : Int} (h : prOK p (l.drop k) = prOK 0 l) (hk : l.length ≤ k) : prOK 0 l = true := by
  rw [← h, List.drop_eq_nil_of_le hk]; rfl
theorem chkS_bad {s : Sch} (h : ¬ (headS s ∧ tailS s)) : (420 : Int) = chkS s := by rw [chkS, if_neg (fun g => h ⟨g.1, g.2.1⟩)]
theorem chkS_bad2 {s : Sch} (h : prOK 0 s.p = false) : (420 : Int) = chkS s := by rw [chkS, if_neg (fun g => by simp [h] at g)]
theorem sumA_step {l : List Prize} {k : Nat} {n : Int} {x : Prize} (h : sumL n ((l.drop k).map (·.a)) = sumA l) (hx : l[k]? = some x) : sumL (n + x.a) ((l.drop (k + 1)).map (·.a)) = sumA l := by
  rw [← h, drop_cons hx]; rfl
theorem sumA_end {l : List Prize} {k : Nat} {n : Int} (h : sumL n ((l.drop k).map (·.a)) = sumA l) (hk : l.length ≤ k) : n = sumA l := by
  rw [← h, List.drop_eq_nil_of_le hk]; rfl
/-- The error that Prizes and Moves have in common. -/
def fitS (t : Tab) (s : Sch) : Int := if chkT t ≠ 0 then chkT t else if chkS s ≠ 0 then chkS s else if t.c ≠ s.c then 420 else 0
theorem fitS_ok {t : Tab} {s : Sch} (h : fitS t s = 0) : chkT t = 0 ∧ chkS s = 0 ∧ t.c = s.c := by
  unfold fitS at h; split at h
  · omega
  · split at h
    · omega
    · split at h
      · omega
      · omega
end Go.Proofs.Ytoiiblkncbnlaaa

/-
  Chapter 42: equal parts, parts of ranks, groups of tied places. Conditions: those of each theorem.
-/
set_option linter.unusedVariables false
set_option linter.unusedSimpArgs false
namespace Go.Proofs.Ytoiiblkncbnlaaa
open Go.DL
def onesL (n : Nat) : List Int := List.replicate n 1
theorem sumL_ones (n : Nat) : sumL 0 (onesL n) = n := by
  induction n with
  | zero => rfl
  | succ n ih =>
    have e : sumL 0 (onesL (n + 1)) = sumL 0 (onesL n) + 1 := by
      simp only [onesL, List.replicate_succ, sumL]; exact sumL_add _ 0 1
    rw [e, ih]; omega
/-- An amount in equal parts. -/
def eqL (a : Int) (n : Nat) : List Int := splitW a (sumL 0 (onesL n)) (onesL n)
theorem eqL_length (a : Int) (n : Nat) : (eqL a n).length = n := by simp [eqL, splitW, partsOf, onesL]
theorem leftOf_const (l : List Part) (c : Int) (h : ∀ x ∈ l, x.c = c) : ∀ a : Int, leftOf a l = a - c * l.length := by
  induction l with
  | nil => intro a; simp [leftOf]
  | cons x l ih =>
    intro a
    have h1 := ih (fun y hy => h y (by simp [hy])) (a - x.c)
    have e : leftOf a (x :: l) = leftOf (a - x.c) l := rfl
    rw [e, h1, h x (by simp)]
    simp only [List.length_cons, Int.natCast_add, Int.natCast_one, Int.mul_add, Int.mul_one]
    omega
theorem countP_lt_range (k n : Nat) (h : k ≤ n) : (List.range n).countP (fun j => decide (j < k)) = k := by
  induction n with
  | zero => simp; omega
  | succ n ih =>
    rw [List.range_succ, List.countP_append]
    by_cases e : k = n + 1
    · subst e
      have : (List.range n).countP (fun j => decide (j < n + 1)) = (List.range n).length := List.countP_eq_length.2 fun j hj => by simp at hj; simp; omega
      rw [this]; simp
    · rw [ih (by omega)]
      have : ¬ n < k := by omega
      simp [this]
theorem eqL_parts {a : Int} (ha : 0 ≤ a) (n : Nat) : partsOf a (n : Int) (onesL n) = (List.range n).map fun k : Nat => (⟨(k : Int), a / n, a % n⟩ : Part) := by
  unfold partsOf
  rw [show (onesL n).length = n from List.length_replicate]
  refine List.map_congr_left fun k hk => ?_
  have hk := List.mem_range.1 hk
  have h1 : (onesL n).getD k 0 = 1 := by simp [onesL, List.getD, List.getElem?_replicate, hk]
  simp only [partAt, h1, Int.mul_one]
  rw [Int.tdiv_eq_ediv_of_nonneg ha, Int.tmod_eq_emod_of_nonneg ha]
theorem eqL_get {a : Int} {n j : Nat} (ha : 0 ≤ a) (hj : j < n) : (eqL a n)[j]? = some (a / n + if (j : Int) < a % n then 1 else 0) := by
  unfold eqL splitW
  rw [sumL_ones, eqL_parts ha n]
  simp only [List.map_map, List.getElem?_map, List.getElem?_range hj, Option.map_some, Function.comp_def]
  have hr : rank ((List.range n).map fun k : Nat => (⟨(k : Int), a / n, a % n⟩ : Part)) ⟨(j : Int), a / n, a % n⟩ = j := by
    unfold rank
    rw [List.countP_map]
    refine (List.countP_congr fun i _ => ?_).trans (countP_lt_range j n (by omega))
    simp [ahead, Function.comp_def]
  have hl : leftOf a ((List.range n).map fun k : Nat => (⟨(k : Int), a / n, a % n⟩ : Part)) = a % n := by
    rw [leftOf_const _ (a / n) (fun x hx => by obtain ⟨k, _, rfl⟩ := List.mem_map.1 hx; rfl)]
    rw [List.length_map, List.length_range]
    have := Int.mul_ediv_add_emod a n
    rw [Int.mul_comm]; omega
  rw [hr, hl]
theorem eqL_bounds {a : Int} {n : Nat} (ha : 0 ≤ a) {x : Int} (hx : x ∈ eqL a n) : 0 ≤ x ∧ x ≤ a := by
  obtain ⟨j, hj, e⟩ := List.mem_iff_getElem.1 hx
  rw [eqL_length] at hj
  have h1 := eqL_get ha hj
  rw [List.getElem?_eq_getElem (by rw [eqL_length]; exact hj), e] at h1
  have h1 := Option.some.inj h1
  have hn : (0 : Int) < n := by omega
  have h2 := Int.ediv_nonneg ha (Int.le_of_lt hn)
  have h3 := Int.emod_nonneg a (Int.ne_of_gt hn)
  have h4 := Int.mul_ediv_add_emod a n
  have h5 : (n : Int) * (a / n) ≥ 1 * (a / n) := Int.mul_le_mul_of_nonneg_right (by omega) h2
  split at h1 <;> omega

/-- The part of a rank. -/
def part (ps : List Prize) (r : Int) : Int :=
  match ps with
  | [] => 0
  | p :: l => if p.f ≤ r ∧ r ≤ p.t then (eqL p.a (p.t - p.f + 1).toNat).getD (r - p.f).toNat 0 else part l r
def partL (ps : List Prize) : List Int := (List.range 24).map fun i : Nat => part ps ((i : Int) + 1)
def putAt (l : List Int) (i : Nat) (xs : List Int) : List Int := l.take i ++ xs ++ l.drop (i + xs.length)
theorem putAt_nil (l : List Int) (i : Nat) : putAt l i [] = l := by simp [putAt]
theorem putAt_length {l : List Int} {i : Nat} {xs : List Int} (h : i + xs.length ≤ l.length) : (putAt l i xs).length = l.length := by
  simp only [putAt, List.length_append, List.length_take, List.length_drop]; omega
theorem putAt_snoc {l : List Int} {i : Nat} {xs : List Int} {x : Int} (h : i + xs.length < l.length) : (putAt l i xs).set (i + xs.length) x = putAt l i (xs ++ [x]) := by
  have e1 : l.drop (i + xs.length) = l[i + xs.length] :: l.drop (i + xs.length + 1) := List.drop_eq_getElem_cons h
  have e2 : (l.take i ++ xs).length = i + xs.length := by simp [List.length_take]; omega
  unfold putAt
  rw [e1, List.set_append, if_neg (by omega), e2, Nat.sub_self, List.set_cons_zero]
  simp [Nat.add_assoc]
theorem putAt_get (l : List Int) (i : Nat) (xs : List Int) (h : i + xs.length ≤ l.length) (j : Nat) : (putAt l i xs)[j]? = if i ≤ j ∧ j < i + xs.length then xs[j - i]? else l[j]? := by
  unfold putAt
  have e : (l.take i).length = i := by simp; omega
  by_cases h1 : j < i
  · rw [List.append_assoc, List.getElem?_append_left (by omega), if_neg (by omega), List.getElem?_take_of_lt h1]
  · by_cases h2 : j < i + xs.length
    · rw [List.append_assoc, List.getElem?_append_right (by omega), e, List.getElem?_append_left (by omega), if_pos (by omega)]
    · rw [List.getElem?_append_right (by simp only [List.length_append]; omega), if_neg (by omega), List.getElem?_drop]
      congr 1
      simp only [List.length_append]; omega
def fillL (ps : List Prize) (l : List Int) : List Int := ps.foldl (fun l p => putAt l p.f.toNat (eqL p.a (p.t - p.f + 1).toNat)) l
theorem prOK_mem {ps : List Prize} : ∀ {last : Int}, prOK last ps = true → ∀ p ∈ ps, last < p.f ∧ p.f ≤ p.t ∧ p.t ≤ 24 ∧ 1 ≤ p.a ∧ p.a ≤ 1125899906842624 := by
  induction ps with
  | nil => intro _ _ p hp; cases hp
  | cons q l ih =>
    intro last h p hp
    rw [prOK] at h
    split at h
    · cases h
    · rcases List.mem_cons.1 hp with rfl | hp
      · omega
      · have := ih h p hp; omega
theorem part_low {ps : List Prize} {last r : Int} (h : prOK last ps = true) (hr : r ≤ last) : part ps r = 0 := by
  induction ps generalizing last with
  | nil => rfl
  | cons q l ih =>
    have hm := prOK_mem h q (by simp)
    rw [prOK] at h
    split at h
    · cases h
    · rw [part, if_neg (by omega)]; exact ih h (by omega)
theorem fillL_get {ps : List Prize} : ∀ {last : Int} {l : List Int}, prOK last ps = true → 0 ≤ last → l.length = 25 → ∀ r : Nat, r < 25 → (fillL ps l)[r]? = if (r : Int) ≤ last ∨ part ps r = 0 ∧ ∀ p ∈ ps, ¬ (p.f ≤ (r : Int) ∧ (r : Int) ≤ p.t) then l[r]? else some (part ps r) := by
  induction ps with
  | nil => intro last l h h0 hl r hr; simp [fillL, part]
  | cons q ps ih =>
    intro last l h h0 hl r hr
    have hm := prOK_mem h q (by simp)
    rw [prOK] at h
    split at h
    · cases h
    · have hlen : (eqL q.a (q.t - q.f + 1).toNat).length = (q.t - q.f + 1).toNat := eqL_length _ _
      have hput : q.f.toNat + (eqL q.a (q.t - q.f + 1).toNat).length ≤ l.length := by rw [hlen]; omega
      have h1 := ih (last := q.t) (l := putAt l q.f.toNat (eqL q.a (q.t - q.f + 1).toNat)) h (by omega) (by rw [putAt_length hput]; exact hl) r hr
      rw [show fillL (q :: ps) l = fillL ps (putAt l q.f.toNat (eqL q.a (q.t - q.f + 1).toNat)) from rfl, h1, putAt_get _ _ _ hput]
      have hnone : (r : Int) ≤ q.t → ∀ p ∈ ps, ¬ (p.f ≤ (r : Int) ∧ (r : Int) ≤ p.t) := fun hrt p hp => by have := prOK_mem h p hp; omega
      by_cases hin : q.f ≤ (r : Int) ∧ (r : Int) ≤ q.t
      · rw [if_pos (.inl hin.2), if_pos (by rw [hlen]; omega), part, if_pos hin]
        rw [if_neg (by intro g; rcases g with g | ⟨_, g⟩
                       · omega
                       · exact g q (by simp) hin)]
        have e : ((r : Int) - q.f).toNat = r - q.f.toNat := by omega
        rw [List.getD, e, List.getElem?_eq_getElem (by rw [hlen]; omega)]; rfl
      · have hp0 : part (q :: ps) r = part ps r := by rw [part, if_neg hin]
        have h2 : ¬ (q.f.toNat ≤ r ∧ r < q.f.toNat + (eqL q.a (q.t - q.f + 1).toNat).length) := by rw [hlen]; omega
        rw [if_neg h2, hp0]
        by_cases hrl : (r : Int) ≤ q.t
        · rw [if_pos (.inl hrl)]
          have h3 : part ps r = 0 := part_low h hrl
          rw [if_pos]
          rcases Int.lt_or_le last r with h4 | h4
          · refine .inr ⟨h3, fun p hp => ?_⟩
            rcases List.mem_cons.1 hp with rfl | hp
            · exact hin
            · exact hnone hrl p hp
          · exact .inl h4
        · have h5 : (∀ p ∈ q :: ps, ¬ (p.f ≤ (r : Int) ∧ (r : Int) ≤ p.t)) ↔ (∀ p ∈ ps, ¬ (p.f ≤ (r : Int) ∧ (r : Int) ≤ p.t)) := by
            constructor
            · intro g p hp; exact g p (by simp [hp])
            · intro g p hp
              rcases List.mem_cons.1 hp with rfl | hp
              · exact hin
              · exact g p hp
          have h6 : ((r : Int) ≤ q.t) ↔ False := by constructor <;> intro g <;> first | omega | cases g
          have h7 : ((r : Int) ≤ last) ↔ False := by constructor <;> intro g <;> first | omega | cases g
          simp only [h5, h6, h7]
theorem fill_partL {ps : List Prize} (h : prOK 0 ps = true) : (fillL ps (List.replicate 25 0)).drop 1 = partL ps := by
  apply List.ext_getElem?
  intro i
  rw [List.getElem?_drop]
  by_cases hi : i < 24
  · rw [fillL_get h (Int.le_refl _) (by simp) (1 + i) (by omega)]
    have e2 : (partL ps)[i]? = some (part ps ((1 + i : Nat) : Int)) := by
      simp only [partL, List.getElem?_map, List.getElem?_range hi, Option.map_some]; congr 2; omega
    rw [e2]
    split
    · rename_i g
      rcases g with g | ⟨g, _⟩
      · omega
      · rw [g, List.getElem?_replicate, if_pos (by omega)]
    · rfl
  · have hl : ∀ (qs : List Prize) (l : List Int) (last : Int), prOK last qs = true → 0 ≤ last → l.length = 25 → (fillL qs l).length = 25 := by
      intro qs
      induction qs with
      | nil => intro l _ _ _ hl; exact hl
      | cons q qs ih =>
        intro l last hq h0 hl
        have hm := prOK_mem hq q (by simp)
        rw [prOK] at hq
        split at hq
        · cases hq
        · exact ih _ q.t hq (by omega) (by rw [putAt_length (by rw [eqL_length]; omega)]; exact hl)
    rw [List.getElem?_eq_none (by rw [hl _ _ 0 h (by omega) (by simp)]; omega), List.getElem?_eq_none (by simp [partL]; omega)]

/-! ## groups of tied places -/
def grpGo (g : List Place) (k : Int) : List Place → List (List Place)
  | [] => [g]
  | p :: l => if k = p.k then grpGo (g ++ [p]) k l else g :: grpGo [p] p.k l
def grp : List Place → List (List Place)
  | [] => []
  | p :: l => grpGo [p] p.k l
def share : List Place → List Int → List Pay
  | p :: ps, n :: ns => if n > 0 then ⟨p.r.c, n⟩ :: share ps ns else share ps ns
  | _, _ => []
def payG (rest : List Int) : List (List Place) → List Pay
  | [] => []
  | g :: gs => share g (eqL (sumL 0 (rest.take g.length)) g.length) ++ payG (rest.drop g.length) gs
def payU (t : Tab) (s : Sch) : List Pay := payG (partL s.p) (grp t.l)
def insP (p : Pay) : List Pay → List Pay
  | [] => [p]
  | q :: l => if q.c < p.c then q :: insP p l else p :: q :: l
def insAll (l : List Pay) : List Pay := l.foldl (fun o p => insP p o) []
end Go.Proofs.Ytoiiblkncbnlaaa

/-
  Chapter 42: what the walks of the checks need. Conditions: those of each theorem.
-/
set_option linter.unusedVariables false
set_option linter.unusedSimpArgs false
namespace Go.Proofs.Ytoiiblkncbnlaaa
open Go.DL
theorem rowOK_of {r : Row} (h : (nums r).all inR = true) : rowOK r = decide (0 ≤ r.c ∧ r.c ≤ 191 ∧ -99999 ≤ r.po ∧ r.po ≤ 99999) := by rw [rowOK, h, Bool.true_and]
theorem rowOK_no {r : Row} (h : (nums r).all inR = false) : rowOK r = false := by rw [rowOK, h, Bool.false_and]
def Seen (m : List Int) (l : List Place) (k : Nat) : Prop := ∀ y, smem m y = ((l.take k).map clubOf).contains y
theorem seen_zero (l : List Place) : Seen [] l 0 := fun y => by simp [smem]
theorem seen_step {m : List Int} {l : List Place} {k : Nat} (h : Seen m l k) {x : Place} (hx : l[k]? = some x) : Seen (sput m x.r.c) l (k + 1) := by
  intro y
  rw [smem_sput, h y, take_snoc hx, List.map_append, List.contains_append]
  simp only [List.map_cons, List.map_nil, List.contains_cons, List.contains_nil, Bool.or_false, clubOf]
  rw [Bool.or_comm]
end Go.Proofs.Ytoiiblkncbnlaaa
namespace Go.Proofs.Ytoiiblkncbnlaaa
end Go.Proofs.Ytoiiblkncbnlaaa

/-
  Chapter 42: searching, inserting. Conditions: those of each theorem.
-/
set_option linter.unusedVariables false
set_option linter.unusedSimpArgs false
namespace Go.Proofs.Ytoiiblkncbnlaaa
open Go.DL
theorem onesL_length (n : Nat) : (onesL n).length = n := List.length_replicate
/-- Numbers in order, with another one. -/
def insI (n : Int) : List Int → List Int
  | [] => [n]
  | x :: l => if x < n then x :: insI n l else n :: x :: l
def idxT (c : Int) : List Tab → Nat → Int
  | [], _ => -1
  | x :: l, k => if x.c = c then (k : Int) else idxT c l (k + 1)
def idxS (c : Int) : List Sch → Nat → Int
  | [], _ => -1
  | x :: l, k => if x.c = c then (k : Int) else idxS c l (k + 1)
end Go.Proofs.Ytoiiblkncbnlaaa
namespace Go.Proofs.Ytoiiblkncbnlaaa
open Go.DL
theorem has_skip {l : List Int} {n x : Int} {k : Nat} (iv : (l.drop k).contains n = l.contains n) (hx : l[k]? = some x) (h : ¬ (x = n)) : (l.drop (k + 1)).contains n = l.contains n := by
  rw [← iv, drop_cons hx, List.contains_cons]
  have : (n == x) = false := by simpa using fun e => h e.symm
  rw [this, Bool.false_or]
theorem has_here {l : List Int} {n x : Int} {k : Nat} (iv : (l.drop k).contains n = l.contains n) (hx : l[k]? = some x) (h : x = n) : l.contains n = true := by
  rw [← iv, drop_cons hx, List.contains_cons]; simp [h]
theorem has_end {l : List Int} {n : Int} {k : Nat} (iv : (l.drop k).contains n = l.contains n) (h : l.length ≤ k) : l.contains n = false := by
  rw [← iv, List.drop_eq_nil_of_le h]; rfl
end Go.Proofs.Ytoiiblkncbnlaaa

/-
  Chapter 42: the library's sorts at payments and at numbers. Conditions: those of each theorem.
-/
set_option linter.unusedVariables false
set_option linter.unusedSimpArgs false
namespace Go.Proofs.Ytoiiblkncbnlaaa
open Go.DL Go.RowKit Go.Shelf Go.Sort
attribute [local go_sem] Oper.semAt_some
set_option maxRecDepth 100000
theorem zt3 : Try.prog.underlying 3 = some (TypeDesc.int IntKind.i64) := by kernel_rfl
instance : Inhabited Pay := ⟨⟨0, 0⟩⟩
def encKP (p : Pay) : List Value := [.int .i64 p.c, .int .i64 p.a]
def cfPay (x y : Pay) : Int := Lib.compareInt x.c y.c
set_option maxHeartbeats 4000000 in
theorem payCmp_calls (x y : Pay) (W : World) : Calls Try.prog 29 #[.agg #[.int .i64 x.c, .int .i64 x.a], .agg #[.int .i64 y.c, .int .i64 y.a]] W fun e w' => e = .returned (.int .i64 (cfPay x y)) ∧ ∃ q os', w' = grow (W.drewN q) os' := by
  have hcon := fun a b W' => AnyG.cmp_Compare_int Try.lcmp a b W'
  change ∀ a b W', Calls Try.prog 30 _ _ _ at hcon
  have u3 := run_underlying (P := Try.prog) zt3
  unfold cfPay
  generalize e1 : Lib.compareInt x.c y.c = r1
  go_enter Try.func29, Try.ntmps29
  go_wp2_with (go_at_call 30; refine (hcon _ _ _).mono ?_; rintro e w' ⟨rfl, rfl⟩)
  go_ret
  exact ⟨rfl, 0, _, by rw [alloc_eq_grow, alloc_eq_grow, grow_grow]; rfl⟩
theorem lt_pay (x y : Pay) : ltOf cfPay x y = decide (x.c < y.c) := by
  unfold ltOf cfPay Lib.compareInt
  by_cases h1 : x.c < y.c
  · simp [h1]
  · by_cases h2 : y.c < x.c <;> simp [h1, h2]
theorem swoPay : SWO (ltOf cfPay) where
  irrefl x := by rw [lt_pay]; simp
  trans x y z h1 h2 := by rw [lt_pay] at *; simp only [decide_eq_true_eq] at *; omega
  ntrans x y z h1 h2 := by rw [lt_pay] at *; simp only [decide_eq_false_iff_not] at *; omega
theorem flatKP_row (d : List Pay) : (flatK encKP 2 d.toArray).toList = rowV (d.map encPay) := by
  have hu : ∀ e ∈ d.map encPay, e.cells.length = 2 := fun e he => by obtain ⟨x, _, rfl⟩ := List.mem_map.1 he; rfl
  apply List.ext_getElem?
  intro t
  by_cases ht : t < d.length * 2
  · have hk : t / 2 < d.length := by omega
    have h1 : (d.map encPay)[t / 2]? = some (encPay d[t / 2]) := by rw [List.getElem?_map, List.getElem?_eq_getElem hk]; rfl
    have hsz : (flatK encKP 2 d.toArray).size = d.length * 2 := by simp
    have h2 : (flatK encKP 2 d.toArray).toList[t]? = some ((encKP d[t / 2])[t % 2]!) := by
      rw [Array.getElem?_toList, Array.getElem?_eq_getElem (by rw [hsz]; exact ht)]
      have := get_flatK encKP 2 d.toArray t (by simpa using ht)
      rw [getElem!_pos _ t (by rw [hsz]; exact ht)] at this
      rw [this, getElem!_pos d.toArray (t / 2) (by simpa using hk)]
      simp
    rw [h2, rowV, List.getElem?_map]
    have h3 : ∀ j c, (encPay d[t / 2]).cells[j]? = some c → (flat (d.map encPay))[t / 2 * 2 + j]? = some c := fun j c hj => flat_get (sz := 2) hu h1 hj
    have h4 : t = t / 2 * 2 + t % 2 := by omega
    clear h2 h1 hsz
    generalize d[t / 2] = q at h3 ⊢
    have h5 : t % 2 < 2 := Nat.mod_lt _ (by decide)
    generalize hm : t % 2 = m at h4 h5 ⊢
    rw [h4]
    match m, h5 with
    | 0, _ => rw [h3 0 _ rfl]; rfl
    | 1, _ => rw [h3 1 _ rfl]; rfl
  · rw [List.getElem?_eq_none (by simp; omega), List.getElem?_eq_none (by rw [rowV, List.length_map, flat_length _ hu, List.length_map]; omega)]
theorem cmpP_lays (blk off size : Nat) (w : World) : CmpLays Try.prog 29 #[] encKP 2 cfPay blk off size w := fun _ _ _ _ x y => payCmp_calls x y _
theorem take_putZ (cur F : Array Value) (h : F.size ≤ cur.size) : (putCells id 0 F cur).toList.take F.size = F.toList := by
  apply List.ext_getElem?
  intro j
  by_cases hj : j < F.size
  · rw [List.getElem?_take_of_lt hj, Array.getElem?_toList]
    simp [putCells, hj, show j < cur.size by omega]
  · rw [List.getElem?_take_eq_none (by omega), List.getElem?_eq_none (by simp; omega)]
/-- A list of payments, ordered by clubs. -/
def sortP (d d' : List Pay) : Prop := d'.Perm d ∧ d'.Pairwise fun p q => ¬ q.c < p.c
theorem sort_okP : SortOK Try.prog 28 29 55 2 encPay sortP := by
  refine ⟨⟨Try.f28, by kernel_rfl, by kernel_rfl, by kernel_rfl⟩, ?_⟩
  intro w blk cap cur d hne hlt hb hcap hmax hcs htk
  have hblk := (Array.getElem?_eq_some_iff.1 hb).1
  have hF : (flatK encKP 2 d.toArray).size = d.length * 2 := by simp
  have hcur : d.length * 2 ≤ cur.size := by rw [hcs]; exact Nat.mul_le_mul_right _ hcap
  have hH : HoldsK encKP 2 w blk 0 d.toArray := by
    intro j hj
    rw [hF] at hj
    refine ⟨?_, by simp [World.frozen?, hb]⟩
    have h1 : (cur.toList.take (d.length * 2))[j]? = (flatK encKP 2 d.toArray).toList[j]? := by rw [htk, flatKP_row]
    rw [List.getElem?_take_of_lt hj] at h1
    simp only [World.cell?, hb, Nat.zero_add, Option.isSome_none, Bool.false_eq_true, if_false]
    rw [← Array.getElem?_toList, h1, Array.getElem?_toList, Array.getElem?_eq_getElem (by rw [hF]; exact hj), getElem!_pos _ j (by rw [hF]; exact hj)]
    rfl
  have hcon := AnyQ.slices_SortFunc Try.lsortP 2 Try.isAgg55 Try.sizeOf55 encKP (fun _ => rfl) (fun x v hv => by simp [encKP] at hv; rcases hv with rfl | rfl <;> rfl) cfPay swoPay 29 #[] blk 0 cap d.toArray w
    (enters_of Try.func29 (by kernel_rfl) rfl) (cmpP_lays blk 0 _ w) hH hblk (by simpa using hlt)
  simp only [List.size_toArray] at hcon
  refine hcon.mono ?_
  rintro e w' ⟨rfl, d', n, os, hp, hs, rfl⟩
  have hsz : d'.size = d.length := by simpa using hp.1
  have hF' : (flatK encKP 2 d').size = d.length * 2 := by simp [hsz]
  refine ⟨rfl, d'.toList, putCells id 0 (flatK encKP 2 d') cur, ⟨?_, ?_⟩, by simpa using hsz, ⟨rfl, rfl, rfl, by simp [sortWorldK, putRowK], fun k hk hne' => ?_⟩, ?_, by simp [putCells], ?_⟩
  · have := hp.2.2
    rw [Array.extract_eq_self_of_le (by omega), Array.extract_eq_self_of_le (by simp)] at this
    simpa using this
  · rw [List.pairwise_iff_getElem]
    intro i j hi hj hij
    have := hs i j (Nat.zero_le _) hij (by simpa [hsz] using hj)
    rw [lt_pay, getElem!_pos d' j (by simpa using hj), getElem!_pos d' i (by simpa using hi)] at this
    simpa using this
  · unfold sortWorldK putRowK
    rw [heap_grow_old _ _ (by simpa using hk)]
    have : blk ≠ k := fun e => hne' (by rw [e])
    simp [putRow, mapBlock, Sort.ahead, Array.getElem?_modify, this]
  · unfold sortWorldK putRowK
    rw [heap_grow_old _ _ (by simpa using hblk)]
    simp [putRow, mapBlock, Sort.ahead, Array.getElem?_modify, hb, onCells]
  · have := take_putZ cur (flatK encKP 2 d') (by rw [hF']; exact hcur)
    rw [hF'] at this
    rw [this]
    have := flatKP_row d'.toList
    rwa [Array.toArray_toList] at this
theorem sort_okI : SortIOK Try.prog 40 3 := by
  refine ⟨⟨Try.f40, by kernel_rfl, by kernel_rfl, by kernel_rfl⟩, fun w p cap => AnyM.slices_Sort_int_none Try.lsortI p cap w, ?_⟩
  intro w blk cap cur d hlt hb hcap hcs htk
  have hblk := (Array.getElem?_eq_some_iff.1 hb).1
  have hH : Holds (Value.int .i64) w blk 0 d.toArray := by
    intro j hj
    have hj' : j < d.length := by simpa using hj
    refine ⟨?_, by simp [World.frozen?, hb]⟩
    have h1 : (cur.toList.take d.length)[j]? = some (Value.int .i64 d[j]) := by rw [htk, rowV_eI, List.getElem?_map, List.getElem?_eq_getElem hj']; rfl
    rw [List.getElem?_take_of_lt hj', Array.getElem?_toList] at h1
    simp only [World.cell?, hb, Nat.zero_add, Option.isSome_none, Bool.false_eq_true, if_false]
    rw [h1, getElem!_pos _ j (by simpa using hj')]
    simp
  refine (AnyM.slices_Sort_int Try.lsortI blk 0 cap d w hH hblk hlt).mono ?_
  rintro e w' ⟨rfl, n, os, rfl⟩
  have hsz : (d.mergeSort fun x y => decide (x ≤ y)).toArray.size = d.length := by simp
  refine ⟨rfl, putCells (Value.int .i64) 0 (d.mergeSort fun x y => decide (x ≤ y)).toArray cur, ⟨rfl, rfl, rfl, by simp [putRow, Sort.grow, mapBlock, Sort.ahead], fun k hk hne' => ?_⟩, ?_, by simp [putCells], ?_⟩
  · rw [heap_grow_old _ _ (by simpa using hk)]
    have : blk ≠ k := fun e => hne' (by rw [e])
    simp [putRow, mapBlock, Sort.ahead, Array.getElem?_modify, this]
  · rw [heap_grow_old _ _ (by simpa using hblk)]
    simp [putRow, mapBlock, Sort.ahead, Array.getElem?_modify, hb, onCells]
  · rw [rowV_eI]
    apply List.ext_getElem?
    intro j
    by_cases hj : j < d.length
    · rw [List.getElem?_take_of_lt hj, Array.getElem?_toList, List.getElem?_map]
      have h2 : j < (srtI d).length := by rw [srtI_length]; exact hj
      rw [List.getElem?_eq_getElem h2]
      have h3 : j < cur.size := by omega
      simp [putCells, hj, h3, srtI]
    · rw [List.getElem?_take_eq_none (by omega), List.getElem?_eq_none (by rw [List.length_map, srtI_length]; omega)]
end Go.Proofs.Ytoiiblkncbnlaaa

/-
  DERIVED: THE SHELF's CONTRACTS AT THIS DUMP, IN PLAIN WORDS (tools/lay-plain.mjs out of 'YtoiiblkncbnlaaaLayBs.lean', which tools/lay-shelf.mjs wrote): THE SAME DECLARATIONS UNDER THE SAME NAMES: 'import', 'namespace', 'open', 'def', 'theorem' AND NOTHING ELSE: no command of the shelf's: FOR A HAND-IN. Each laying: the table of numbers ('.._ren') and one theorem, a field a fact of the dump's own or the kernel's comparison; each contract: ONE APPLICATION.
-/
namespace Go.Proofs
open Go.Shelf
def Try.lmul_ren : Go.Shelf.Ren := ⟨fun | 212 => 56 | 263 => 79 | 264 => 80 | n => n, fun | 46 => 93 | 51 => 119 | 146 => 131 | 53 => 121 | 148 => 133 | n => n, fun | n => n⟩
theorem Try.lmul : Go.Proofs.Lays.n212 Try.prog Try.lmul_ren := {
  mixed := by kernel_rfl
  f212 := Try.func56.trans (congrArg some (by kernel_rfl))
  f263 := Try.func79.trans (congrArg some (by kernel_rfl))
  f264 := Try.func80.trans (congrArg some (by kernel_rfl))
  t46 := Try.underlying93
  a46 := Try.isAgg93
  z46 := Try.sizeOf93
  v46 := Try.zeroValue93
  t51 := Try.underlying119
  a51 := Try.isAgg119
  z51 := Try.sizeOf119
  v51 := Try.zeroValue119
  t53 := Try.underlying121
  a53 := Try.isAgg121
  z53 := Try.sizeOf121
  v53 := Try.zeroValue121
  t146 := Try.underlying131
  a146 := Try.isAgg131
  z146 := Try.sizeOf131
  v146 := Try.zeroValue131
  t148 := Try.underlying133
  a148 := Try.isAgg133
  z148 := Try.sizeOf133
  v148 := Try.zeroValue133 }
end Go.Proofs

/-
  maps.Keys and slices.Sorted at a set of the call's own: the keys, ascending. Conditions: those of each theorem.
-/
set_option linter.unusedVariables false
set_option linter.unusedSimpArgs false
namespace Go.Proofs.Ytoiiblkncbnlaaa
open Go.DL Go.RowKit Go.Shelf Go.Sort Go.Maps
theorem sorts_in (m : Nat) : AnyZI.SortsIn Try.prog Try.lsorted_ren Fence.wide m :=
  ⟨fun blk off cap ss W hH hblk hsz => callsIn_wide.2 (AnyM.slices_Sort_int Try.lsortI blk off cap ss W hH hblk hsz),
   fun p cap W => callsIn_wide.2 (AnyM.slices_Sort_int_none Try.lsortI p cap W)⟩
theorem keys_okS : KeysOKS Try.prog 21 20 3 4 3 := by
  refine ⟨⟨Try.f21, by kernel_rfl, by kernel_rfl, by kernel_rfl⟩, ⟨Try.f20, by kernel_rfl, by kernel_rfl, by kernel_rfl⟩, ?_⟩
  intro w b n l hown hn
  have hbl := hown.lt
  have cK : CallsIn Fence.wide 5 Try.prog 21 #[.map (some b)] w fun e w' => e = .returned (.func (.func 43) #[] #[.pointer (some ⟨w.heap.size, 0, none⟩)]) ∧ w' = w.alloc (.cells #[.map (some b)] 27) :=
    AnyZI.keys_in Try.lkeys Fence.wide 5 trivial rfl (some b) w
  refine (callsIn_wide.1 cK).mono ?_
  rintro e1 w1 ⟨rfl, rfl⟩
  refine ⟨_, rfl, (Below.refl _ w).alloc (Nat.le_refl _) _, ?_⟩
  have hsize : Maps.size (mapS l) = l.length := by simp [Maps.size, mapS]
  have hl : l.length ≤ n := by
    have := ownsMapS_size hown
    obtain ⟨es, clock, _, _, hs, hD⟩ := hown
    have h2 := congrArg (fun d => match d with | DataW.map es => es.length | _ => 0) hD
    simp only [mapS, List.length_map] at h2
    rw [length_sorted] at h2
    simp at h2
    omega
  have hseq : SeqGives Fence.wide 2 Try.prog 43 #[.pointer (some ⟨w.heap.size, 0, none⟩)] encZ (fun ss => ss.Perm (intKeys (mapS l))) (Maps.size (mapS l)) (w.alloc (.cells #[.map (some b)] 27)) :=
    AnyZI.keys_gives (ρ := Try.lkeys_ren) { Try.lkeys with } Fence.wide _ trivial rfl (by omega) w.heap.size b n (mapS l) _ (by simp) (by simp) (hown.alloc _)
  have cS := AnyZI.sorted_in Try.lsorted Fence.wide 5 trivial trivial trivial trivial rfl (by omega) (sorts_in _) (enters_of Try.func40 (by kernel_rfl) rfl) 43 #[.pointer (some ⟨w.heap.size, 0, none⟩)] trivial
    (enters_of Try.func43 (by kernel_rfl) rfl) _ _ (by rw [hsize]; simp only [maxLen]; omega) (by rw [hsize]; omega) _ hseq
  change CallsIn _ _ Try.prog 20 _ _ _ at cS
  refine (callsIn_wide.1 cS).mono ?_
  rintro e2 w2 ⟨v, ss, rfl, hS, hrow, _, hb⟩
  exact ⟨v, ss, rfl, ((Below.refl _ w).alloc (Nat.le_refl _) _).trans (hb.mono (by simp)), hS, ownsRow_base_a hrow (by simp)⟩
end Go.Proofs.Ytoiiblkncbnlaaa

/-
  Chapter 42: what the library's functions and the divisions of chapter 38 do, as partial functions. Conditions: those of each theorem.
-/
set_option linter.unusedVariables false
set_option linter.unusedSimpArgs false
namespace Go.Proofs.Ytoiiblkncbnlaaa
open Go.DL Go.Shelf Go.RowKit Go.Sort Go.Maps
def encRow (r : Row) : D := .agg [I r.c, I r.pl, I r.wo, I r.dr, I r.lo, I r.fo, I r.ag, I r.af, I r.aw, I r.ca, I r.po]
theorem tup2 {w : World} {A : Nat → Prop} {d1 d2 : D} {v1 v2 : Value} (h1 : RelD w A d1 v1) (h2 : RelD w A d2 v2) : RelD w A (.tup [d1, d2]) (.tuple #[v1, v2]) := by
  refine .tup [d1, d2] #[v1, v2] rfl (fun j => match j with | 0 => v1 | _ => v2) (fun j c hj => ?_) (fun j c hj => ?_)
  · match j, hj with
    | 0, _ => rfl
    | 1, _ => rfl
  · match j, hj with
    | 0, hj => cases hj; exact h1
    | 1, hj => cases hj; exact h2
/-- math/bits.Mul. -/
def g_bits_Mul (x y : Int) : Option (Int × Int) :=
  if 0 ≤ x ∧ x < 18446744073709551616 ∧ 0 ≤ y ∧ y < 18446744073709551616 then some (x * y / 18446744073709551616, x * y % 18446744073709551616) else none
theorem g_bits_Mul_ret {x y : Int} {r : Int × Int} (h : g_bits_Mul x y = some r) : Ret Try.prog 56 [.int .u64 x, .int .u64 y] (.tup [.int .u64 r.1, .int .u64 r.2]) := by
  unfold g_bits_Mul at h
  split at h
  · rename_i hc
    obtain ⟨h1, h2, h3, h4⟩ := hc
    cases h
    obtain ⟨a, rfl⟩ := Int.eq_ofNat_of_zero_le h1
    obtain ⟨b, rfl⟩ := Int.eq_ofNat_of_zero_le h3
    refine ⟨⟨Try.f56, by kernel_rfl, by kernel_rfl, by kernel_rfl⟩, fun w A vs hA hsz hvs => ?_⟩
    obtain ⟨u, hu, k1⟩ := hvs 0 _ rfl
    obtain ⟨v, hv, k2⟩ := hvs 1 _ rfl
    cases k1; cases k2
    have e : vs = #[.int .u64 (a : Int), .int .u64 (b : Int)] := by
      apply Array.ext
      · simpa using hsz
      · intro i h5 h6
        have h7 : i = 0 ∨ i = 1 := by simp at h6; omega
        rcases h7 with rfl | rfl
        · rw [Array.getElem?_eq_getElem h5] at hu; simpa using hu
        · rw [Array.getElem?_eq_getElem h5] at hv; simpa using hv
    subst e
    have hcon := Any.bits_Mul Try.lmul a b (by omega) (by omega) w
    change Calls Try.prog 56 _ _ _ at hcon
    refine hcon.mono ?_
    rintro e w' ⟨rfl, rfl⟩
    refine ⟨_, rfl, Below.refl _ _, tup2 ?_ ?_⟩
    · have : ((a : Int) * (b : Int) / 18446744073709551616) = ((a * b / 18446744073709551616 : Nat) : Int) := by
        rw [show (a : Int) * (b : Int) = ((a * b : Nat) : Int) from (Int.natCast_mul a b).symm]
        generalize a * b = m
        omega
      rw [this]; exact .int _ _
    · have : ((a : Int) * (b : Int) % 18446744073709551616) = ((a * b % 18446744073709551616 : Nat) : Int) := by
        rw [show (a : Int) * (b : Int) = ((a * b : Nat) : Int) from (Int.natCast_mul a b).symm]
        generalize a * b = m
        omega
      rw [this]; exact .int _ _
  · cases h
def splitOK (a : Int) (ws : List Int) : Prop := 0 ≤ a ∧ a ≤ 1125899906842624 ∧ (∀ x ∈ ws, 0 ≤ x ∧ x ≤ 1000) ∧ ws.length ≤ 256 ∧ 0 < sumL 0 ws
instance (a : Int) (ws : List Int) : Decidable (splitOK a ws) := by unfold splitOK; infer_instance
def g_money_Split (a : Int) (ws : List Int) : Option (List Int × Int) := if splitOK a ws then some (splitW a (sumL 0 ws) ws, 0) else none
theorem g_money_Split_ret {a : Int} {ws : List Int} {r : List Int × Int} (h : g_money_Split a ws = some r) : Ret Try.prog 44 [I a, .sl 1 (ws.map elI)] (.tup [.sl 1 (r.1.map elI), I r.2]) := by
  unfold g_money_Split at h
  split at h
  · rename_i hc
    cases h
    exact ret_split a ws hc.1 hc.2.1 hc.2.2.1 hc.2.2.2.1 hc.2.2.2.2
  · cases h
/-- Payments ordered by clubs. -/
def srtP (l : List Pay) : List Pay := l.mergeSort fun p q => decide (p.c ≤ q.c)
theorem srtP_perm (l : List Pay) : (srtP l).Perm l := List.mergeSort_perm l _
theorem srtP_sorted (l : List Pay) : (srtP l).Pairwise fun p q => p.c ≤ q.c := by
  have := List.pairwise_mergeSort (le := fun p q : Pay => decide (p.c ≤ q.c)) (fun a b c h1 h2 => by simp at *; omega) (fun a b => by simp; omega) l
  exact this.imp fun h => by simpa using h
theorem map_inj {α β : Type} {f : α → β} : ∀ {l : List α}, (l.map f).Nodup → ∀ {a b : α}, a ∈ l → b ∈ l → f a = f b → a = b
  | [], _, a, _, ha, _, _ => by cases ha
  | x :: l, hn, a, b, ha, hb, e => by
    rw [List.map_cons, List.nodup_cons] at hn
    rcases List.mem_cons.1 ha with rfl | h1 <;> rcases List.mem_cons.1 hb with rfl | h2
    · rfl
    · exact (hn.1 (List.mem_map.2 ⟨b, h2, e.symm⟩)).elim
    · exact (hn.1 (List.mem_map.2 ⟨a, h1, e⟩)).elim
    · exact map_inj hn.2 h1 h2 e
theorem sortP_uniq {l d : List Pay} (h : sortP l d) (hn : (l.map (·.c)).Nodup) : d = srtP l := by
  have h1 : d.Pairwise fun p q => p.c ≤ q.c := h.2.imp fun h => by omega
  have hp : d.Perm (srtP l) := h.1.trans (srtP_perm l).symm
  refine hp.eq_of_pairwise (fun a b ha hb h1 h2 => ?_) h1 (srtP_sorted l)
  have ha' : a ∈ l := h.1.mem_iff.1 ha
  have hb' : b ∈ l := (srtP_perm l).mem_iff.1 hb
  have hc : a.c = b.c := by omega
  exact map_inj hn ha' hb' hc
end Go.Proofs.Ytoiiblkncbnlaaa

/-
  Go functions as partial functions, printed by auto.py: what each returns when its partial function has a value. Conditions: those of each theorem.
-/
namespace Go.Proofs.Ytoiiblkncbnlaaa
open Go.DL
set_option maxRecDepth 100000
set_option maxHeartbeats 4000000
set_option linter.unusedVariables false
set_option linter.unusedSimpArgs false
abbrev qRow (x : Row) : List C := [.dat (I x.c), .dat (I x.pl), .dat (I x.wo), .dat (I x.dr), .dat (I x.lo), .dat (I x.fo), .dat (I x.ag), .dat (I x.af), .dat (I x.aw), .dat (I x.ca), .dat (I x.po)]
abbrev qPlace (x : Place) : List C := [.dat (I x.k), .dat (I x.b), .dat (.str x.z), .dat (I x.r.c), .dat (I x.r.pl), .dat (I x.r.wo), .dat (I x.r.dr), .dat (I x.r.lo), .dat (I x.r.fo), .dat (I x.r.ag), .dat (I x.r.af), .dat (I x.r.aw), .dat (I x.r.ca), .dat (I x.r.po)]
abbrev qTab (x : Tab) : List C := [.dat (I x.s), .dat (I x.c), .dat (.sl 14 (x.l.map encPlace))]
abbrev qPrize (x : Prize) : List C := [.dat (I x.f), .dat (I x.t), .dat (I x.a)]
abbrev qSch (x : Sch) : List C := [.dat (I x.c), .dat (.sl 3 (x.p.map encPrize)), .dat (I x.u), .dat (I x.d), .dat (I x.ab), .dat (I x.be)]
def elL_encPlace (l : List Place) : D := .sl 14 (l.map encPlace)
structure League where
  table : Tab
  scheme : Sch
  deriving DecidableEq
def encLeague (x : League) : D := .agg [(I x.table.s), (I x.table.c), (.sl 14 (x.table.l.map encPlace)), (I x.scheme.c), (.sl 3 (x.scheme.p.map encPrize)), (I x.scheme.u), (I x.scheme.d), (I x.scheme.ab), (I x.scheme.be)]
abbrev qLeague (x : League) : List C := [.dat (I x.table.s), .dat (I x.table.c), .dat (.sl 14 (x.table.l.map encPlace)), .dat (I x.scheme.c), .dat (.sl 3 (x.scheme.p.map encPrize)), .dat (I x.scheme.u), .dat (I x.scheme.d), .dat (I x.scheme.ab), .dat (I x.scheme.be)]
noncomputable def g_law42_level_j1 (comp_1 : Int) (l_3 : List Place) : Option (Tab) :=
  some (⟨0, comp_1, l_3⟩ : Tab)
noncomputable def g_law42_level_l2 (clubs_2 : List Int) (comp_1 : Int) (v : Nat × (List Place)) : Option ((Nat × (List Place)) ⊕ (Tab)) :=
  match v with | (i_4, l_5) => if (decide (((i_4 : Nat) : Int) < ((clubs_2.length : Nat) : Int))) = true then (gn clubs_2 i_4 fun x_9 => ck ((l_5.length + ([(⟨1, 0, ([] : List UInt8), (⟨x_9, 0, 0, 0, 0, 0, 0, 0, 0, 0, 0⟩ : Row)⟩ : Place)]).length) * 120 ≤ 140737488355328) <| ckI (((i_4 : Nat) : Int) + 1) <| some (.inl (i_4 + 1, (l_5 ++ [(⟨1, 0, ([] : List UInt8), (⟨x_9, 0, 0, 0, 0, 0, 0, 0, 0, 0, 0⟩ : Row)⟩ : Place)])))) else up (g_law42_level_j1 comp_1 l_5)
noncomputable def g_law42_level (comp_1 : Int) (clubs_2 : List Int) : Option (Tab) :=
  loopO (g_law42_level_l2 clubs_2 comp_1) (0, ([] : List Place))
noncomputable def g_table_within (n_1 : Int) (least_2 : Int) (most_3 : Int) : Option (Bool) :=
  if (decide (n_1 ≥ least_2)) = true then (some (decide (n_1 ≤ most_3))) else some false
noncomputable def g_table_checkRow_j1 (r_1 : Row) : Option (Bool) :=
  bd (g_table_within r_1.c 0 191) fun r_2 => if (r_2) = true then (bd (g_table_within r_1.po (-99999) 99999) fun r_5 => some (r_5)) else some false
noncomputable def g_table_checkRow_l2 (r_1 : Row) (v : Nat) : Option ((Nat) ⊕ (Bool)) :=
  match v with | v_7 => if (decide (((v_7 : Nat) : Int) < ((([r_1.pl, r_1.wo, r_1.dr, r_1.lo, r_1.fo, r_1.ag, r_1.af, r_1.aw, r_1.ca]).length : Nat) : Int))) = true then (gn ([r_1.pl, r_1.wo, r_1.dr, r_1.lo, r_1.fo, r_1.ag, r_1.af, r_1.aw, r_1.ca]) v_7 fun x_10 => bd (g_table_within x_10 0 9999) fun r_14 => if (!(r_14)) = true then (up (some false)) else ckI (((v_7 : Nat) : Int) + 1) <| some (.inl (v_7 + 1))) else up (g_table_checkRow_j1 r_1)
noncomputable def g_table_checkRow (r_1 : Row) : Option (Bool) :=
  loopO (g_table_checkRow_l2 r_1) 0
noncomputable def g_table_Check_j2 : Option (Int) :=
  some 0
noncomputable def g_table_Check_j6 (x_9 : Place) (m_5 : List Int) (v_4 : Nat) (t_1 : Tab) (v_15 : Bool) : Option ((Nat × (List Int)) ⊕ (Int)) :=
  if (v_15) = true then (up (some 1)) else ckI (x_9.r.c) <| ck (m_5.length < maxLen) <| ckI (((v_4 : Nat) : Int) + 1) <| some (.inl (v_4 + 1, (sput m_5 x_9.r.c)))
noncomputable def g_table_Check_j5 (x_9 : Place) (m_5 : List Int) (v_4 : Nat) (t_1 : Tab) (ok_14 : Bool) : Option ((Nat × (List Int)) ⊕ (Int)) :=
  if (!(ok_14)) = true then (g_table_Check_j6 x_9 m_5 v_4 t_1 true) else if (decide (((x_9.z.length : Nat) : Int) > 24)) = true then (g_table_Check_j6 x_9 m_5 v_4 t_1 true) else bd (g_table_checkRow x_9.r) fun r_22 => if (!(r_22)) = true then (g_table_Check_j6 x_9 m_5 v_4 t_1 true) else ckI (x_9.r.c) <| g_table_Check_j6 x_9 m_5 v_4 t_1 (smem m_5 x_9.r.c)
noncomputable def g_table_Check_j7 (x_9 : Place) (v_4 : Nat) (t_1 : Tab) (m_5 : List Int) (ok_13 : Bool) (v_26 : Bool) : Option ((Nat × (List Int)) ⊕ (Int)) :=
  if (v_26) = true then (if (x_9.b == 0) = true then (ckI (((v_4 : Nat) : Int) - 1) <| gt t_1.l (((v_4 : Nat) : Int) - 1) fun x_30 => g_table_Check_j5 x_9 m_5 v_4 t_1 (decide (x_9.r.c > x_30.r.c))) else g_table_Check_j5 x_9 m_5 v_4 t_1 false) else g_table_Check_j5 x_9 m_5 v_4 t_1 (ok_13)
noncomputable def g_table_Check_j4 (v_4 : Nat) (t_1 : Tab) (x_9 : Place) (m_5 : List Int) (ok_13 : Bool) : Option ((Nat × (List Int)) ⊕ (Int)) :=
  if (decide (((v_4 : Nat) : Int) > 0)) = true then (ckI (((v_4 : Nat) : Int) - 1) <| gt t_1.l (((v_4 : Nat) : Int) - 1) fun x_36 => g_table_Check_j7 x_9 v_4 t_1 m_5 ok_13 (x_9.k == x_36.k)) else g_table_Check_j7 x_9 v_4 t_1 m_5 ok_13 false
noncomputable def g_table_Check_l3 (t_1 : Tab) (v : Nat × (List Int)) : Option ((Nat × (List Int)) ⊕ (Int)) :=
  match v with | (v_4, m_5) => if (decide (((v_4 : Nat) : Int) < ((t_1.l.length : Nat) : Int))) = true then (gn t_1.l v_4 fun x_9 => ckI (((v_4 : Nat) : Int) + 1) <| if (x_9.k == ((v_4 + 1 : Nat) : Int)) = true then (if (((v_4 : Nat) : Int) == 0) = true then (if (x_9.b == 0) = true then (g_table_Check_j4 v_4 t_1 x_9 m_5 true) else if (decide (((v_4 : Nat) : Int) > 0)) = true then (bd (g_table_within x_9.b 1 12) fun r_45 => g_table_Check_j4 v_4 t_1 x_9 m_5 (r_45)) else g_table_Check_j4 v_4 t_1 x_9 m_5 false) else if (decide (((v_4 : Nat) : Int) > 0)) = true then (bd (g_table_within x_9.b 1 12) fun r_48 => g_table_Check_j4 v_4 t_1 x_9 m_5 (r_48)) else g_table_Check_j4 v_4 t_1 x_9 m_5 false) else g_table_Check_j4 v_4 t_1 x_9 m_5 false) else up (g_table_Check_j2)
noncomputable def g_table_Check_j1 (t_1 : Tab) (v_2 : Bool) : Option (Int) :=
  if (v_2) = true then (some 1) else loopO (g_table_Check_l3 t_1) (0, ([] : List Int))
noncomputable def g_table_Check (t_1 : Tab) : Option (Int) :=
  bd (g_table_within t_1.s 0 63) fun r_50 => if (!(r_50)) = true then (g_table_Check_j1 t_1 true) else bd (g_table_within t_1.c 0 15) fun r_53 => if (!(r_53)) = true then (g_table_Check_j1 t_1 true) else bd (g_table_within ((t_1.l.length : Nat) : Int) 2 24) fun r_56 => g_table_Check_j1 t_1 (!(r_56))
noncomputable def g_prizes_Check_1 (n_1 : Int) (low_2 : Int) (high_3 : Int) : Option (Bool) :=
  if (decide (low_2 ≤ n_1)) = true then (some (decide (n_1 ≤ high_3))) else some false
noncomputable def g_prizes_Check_j3 (v_5 : Bool) : Option (Int) :=
  if (v_5) = true then (some 420) else some 0
noncomputable def g_prizes_Check_j5 (s_1 : Sch) (v_8 : Bool) (v_10 : Bool) : Option (Int) :=
  if (!(v_10)) = true then (g_prizes_Check_j3 true) else if (s_1.ab == s_1.be) = true then (if (s_1.ab != (-1)) = true then (g_prizes_Check_j3 true) else if (s_1.ab == (-1)) = true then (if (decide (s_1.u > 0)) = true then (g_prizes_Check_j3 true) else if (s_1.be == (-1)) = true then (g_prizes_Check_j3 (decide (s_1.d > 0))) else g_prizes_Check_j3 false) else if (s_1.be == (-1)) = true then (g_prizes_Check_j3 (decide (s_1.d > 0))) else g_prizes_Check_j3 false) else if (s_1.ab == (-1)) = true then (if (decide (s_1.u > 0)) = true then (g_prizes_Check_j3 true) else if (s_1.be == (-1)) = true then (g_prizes_Check_j3 (decide (s_1.d > 0))) else g_prizes_Check_j3 false) else if (s_1.be == (-1)) = true then (g_prizes_Check_j3 (decide (s_1.d > 0))) else g_prizes_Check_j3 false
noncomputable def g_prizes_Check_j4 (s_1 : Sch) (sum_4 : Int) (v_8 : Bool) : Option (Int) :=
  if (!(v_8)) = true then (g_prizes_Check_j3 true) else bd (g_prizes_Check_1 s_1.be (-1) 7) fun r_22 => if (r_22) = true then (g_prizes_Check_j5 s_1 v_8 (s_1.be != s_1.c)) else g_prizes_Check_j5 s_1 v_8 false
noncomputable def g_prizes_Check_j2 (s_1 : Sch) (sum_4 : Int) : Option (Int) :=
  if (decide (sum_4 > 1125899906842624)) = true then (g_prizes_Check_j3 true) else bd (g_prizes_Check_1 s_1.ab (-1) 7) fun r_25 => if (r_25) = true then (g_prizes_Check_j4 s_1 sum_4 (s_1.ab != s_1.c)) else g_prizes_Check_j4 s_1 sum_4 false
noncomputable def g_prizes_Check_j7 (sum_28 : Int) (x_35 : Prize) (v_30 : Nat) (s_1 : Sch) (v_39 : Bool) : Option ((Int × Int × Nat) ⊕ (Int)) :=
  if (v_39) = true then (up (some 420)) else ckI (sum_28 + x_35.a) <| ckI (((v_30 : Nat) : Int) + 1) <| some (.inl ((sum_28 + x_35.a), x_35.t, v_30 + 1))
noncomputable def g_prizes_Check_l6 (s_1 : Sch) (v : Int × Int × Nat) : Option ((Int × Int × Nat) ⊕ (Int)) :=
  match v with | (sum_28, last_29, v_30) => if (decide (((v_30 : Nat) : Int) < ((s_1.p.length : Nat) : Int))) = true then (gn s_1.p v_30 fun x_35 => if (decide (x_35.f ≤ last_29)) = true then (g_prizes_Check_j7 sum_28 x_35 v_30 s_1 true) else if (decide (x_35.t < x_35.f)) = true then (g_prizes_Check_j7 sum_28 x_35 v_30 s_1 true) else if (decide (x_35.t > 24)) = true then (g_prizes_Check_j7 sum_28 x_35 v_30 s_1 true) else bd (g_prizes_Check_1 x_35.a 1 1125899906842624) fun r_46 => g_prizes_Check_j7 sum_28 x_35 v_30 s_1 (!(r_46))) else up (g_prizes_Check_j2 s_1 sum_28)
noncomputable def g_prizes_Check_j1 (s_1 : Sch) (v_2 : Bool) : Option (Int) :=
  if (v_2) = true then (some 420) else loopO (g_prizes_Check_l6 s_1) (0, 0, 0)
noncomputable def g_prizes_Check (s_1 : Sch) : Option (Int) :=
  bd (g_prizes_Check_1 s_1.c 0 7) fun r_48 => if (!(r_48)) = true then (g_prizes_Check_j1 s_1 true) else bd (g_prizes_Check_1 s_1.u 0 24) fun r_51 => if (!(r_51)) = true then (g_prizes_Check_j1 s_1 true) else bd (g_prizes_Check_1 s_1.d 0 24) fun r_54 => if (!(r_54)) = true then (g_prizes_Check_j1 s_1 true) else g_prizes_Check_j1 s_1 (decide (((s_1.p.length : Nat) : Int) > 24))
noncomputable def g_prizes_fits (t_1 : Tab) (s_2 : Sch) : Option (Int) :=
  bd (g_table_Check t_1) fun r_3 => if (r_3 != 0) = true then (some r_3) else bd (g_prizes_Check s_2) fun r_6 => if (r_6 != 0) = true then (some r_6) else if (t_1.c != s_2.c) = true then (some 420) else some 0
noncomputable def g_slices_Repeat_Lint_int_j2 (l_13 : List Int) : Option (List Int) :=
  some l_13
noncomputable def g_slices_Repeat_Lint_int_l3 (v : Nat × (List Int)) : Option ((Nat × (List Int)) ⊕ (List Int)) :=
  match v with | (n_14, l_15) => if (decide (((n_14 : Nat) : Int) < ((l_15.length : Nat) : Int))) = true then (sbp l_15.length (some ((n_14 : Nat) : Int)) none fun p_19 m_20 => sbp l_15.length none (some ((n_14 : Nat) : Int)) fun p_22 m_23 => ck (p_19 + m_20 ≤ l_15.length) <| ck (p_22 + m_23 ≤ l_15.length) <| letO (Nat.min ((l_15.drop p_22).take m_23).length m_20) fun m_27 => ckI (((n_14 : Nat) : Int) + ((m_27 : Nat) : Int)) <| some (.inl (n_14 + m_27, (l_15.take p_19 ++ ((l_15.drop p_22).take m_23).take m_27 ++ l_15.drop (p_19 + m_27))))) else up (g_slices_Repeat_Lint_int_j2 l_15)
noncomputable def g_slices_Repeat_Lint_int_j1 (r_4 : Int × Int) (x_1 : List Int) (v_6 : Bool) : Option (List Int) :=
  if (v_6) = true then (none) else ckI (r_4.2) <| ck (0 ≤ (r_4.2 : Int) ∧ (r_4.2 : Int) ≤ (r_4.2 : Int) ∧ ((8 : Nat) : Int) * r_4.2 ≤ 140737488355328 ∧ (r_4.2 : Int) ≤ 140737488355328) <| ck (0 + (List.replicate (r_4.2).toNat (0 : Int)).length ≤ (List.replicate (r_4.2).toNat (0 : Int)).length) <| letO (Nat.min x_1.length ((List.replicate (r_4.2).toNat (0 : Int)).length)) fun m_11 => loopO g_slices_Repeat_Lint_int_l3 (m_11, ((List.replicate (r_4.2).toNat (0 : Int)).take 0 ++ x_1.take m_11 ++ (List.replicate (r_4.2).toNat (0 : Int)).drop (0 + m_11)))
noncomputable def g_slices_Repeat_Lint_int (x_1 : List Int) (count_2 : Int) : Option (List Int) :=
  if (decide (count_2 < 0)) = true then (none) else bd (g_bits_Mul (IntKind.u64.wrap ((x_1.length : Nat) : Int)) (IntKind.u64.wrap count_2)) fun r_4 => if (decide (r_4.1 > 0)) = true then (g_slices_Repeat_Lint_int_j1 r_4 x_1 true) else g_slices_Repeat_Lint_int_j1 r_4 x_1 (decide (r_4.2 > 9223372036854775807))
noncomputable def g_prizes_equal (amount_1 : Int) (n_2 : Int) : Option (List Int) :=
  bd (g_slices_Repeat_Lint_int ([(1 : Int)]) n_2) fun r_3 => bd (g_money_Split amount_1 r_3) fun r_5 => some r_5.1
noncomputable def g_prizes_parts_j1 (l_3 : List Int) : Option (List Int) :=
  sb l_3 (some 1) none fun s_4 => some s_4
noncomputable def g_prizes_parts_j3 (v_6 : Nat) (s_1 : Sch) (l_11 : List Int) : Option ((Nat × (List Int)) ⊕ (List Int)) :=
  ckI (((v_6 : Nat) : Int) + 1) <| some (.inl (v_6 + 1, l_11))
noncomputable def g_prizes_parts_l4 (r_19 : List Int) (x_13 : Prize) (v_6 : Nat) (s_1 : Sch) (v : Nat × (List Int)) : Option ((Nat × (List Int)) ⊕ ((Nat × (List Int)) ⊕ (List Int))) :=
  match v with | (v_21, l_22) => if (decide (((v_21 : Nat) : Int) < ((r_19.length : Nat) : Int))) = true then (gn r_19 v_21 fun x_26 => ckI (x_13.f + ((v_21 : Nat) : Int)) <| gt l_22 (x_13.f + ((v_21 : Nat) : Int)) fun x_31 => ckI (((v_21 : Nat) : Int) + 1) <| some (.inl (v_21 + 1, (l_22.set ((x_13.f + ((v_21 : Nat) : Int))).toNat x_26)))) else up (g_prizes_parts_j3 v_6 s_1 l_22)
noncomputable def g_prizes_parts_l2 (s_1 : Sch) (v : Nat × (List Int)) : Option ((Nat × (List Int)) ⊕ (List Int)) :=
  match v with | (v_6, l_7) => if (decide (((v_6 : Nat) : Int) < ((s_1.p.length : Nat) : Int))) = true then (gn s_1.p v_6 fun x_13 => ckI (x_13.t - x_13.f) <| ckI ((x_13.t - x_13.f) + 1) <| bd (g_prizes_equal x_13.a ((x_13.t - x_13.f) + 1)) fun r_19 => loopO (g_prizes_parts_l4 r_19 x_13 v_6 s_1) (0, l_7)) else up (g_prizes_parts_j1 l_7)
noncomputable def g_prizes_parts (s_1 : Sch) : Option (List Int) :=
  ck (0 ≤ (25 : Int) ∧ (25 : Int) ≤ (25 : Int) ∧ ((8 : Nat) : Int) * 25 ≤ 140737488355328 ∧ (25 : Int) ≤ 140737488355328) <| loopO (g_prizes_parts_l2 s_1) (0, (List.replicate 25 (0 : Int)))
noncomputable def g_prizes_Prizes_2 (a_1 : Place) (b_2 : Place) : Option (Bool) :=
  some (a_1.k == b_2.k)
noncomputable def g_math_bits_Len64_j3 (x_6 : Int) (n_7 : Int) : Option (Int) :=
  gt ([0, 1, 2, 2, 3, 3, 3, 3, 4, 4, 4, 4, 4, 4, 4, 4, 5, 5, 5, 5, 5, 5, 5, 5, 5, 5, 5, 5, 5, 5, 5, 5, 6, 6, 6, 6, 6, 6, 6, 6, 6, 6, 6, 6, 6, 6, 6, 6, 6, 6, 6, 6, 6, 6, 6, 6, 6, 6, 6, 6, 6, 6, 6, 6, 7, 7, 7, 7, 7, 7, 7, 7, 7, 7, 7, 7, 7, 7, 7, 7, 7, 7, 7, 7, 7, 7, 7, 7, 7, 7, 7, 7, 7, 7, 7, 7, 7, 7, 7, 7, 7, 7, 7, 7, 7, 7, 7, 7, 7, 7, 7, 7, 7, 7, 7, 7, 7, 7, 7, 7, 7, 7, 7, 7, 7, 7, 7, 7, 8, 8, 8, 8, 8, 8, 8, 8, 8, 8, 8, 8, 8, 8, 8, 8, 8, 8, 8, 8, 8, 8, 8, 8, 8, 8, 8, 8, 8, 8, 8, 8, 8, 8, 8, 8, 8, 8, 8, 8, 8, 8, 8, 8, 8, 8, 8, 8, 8, 8, 8, 8, 8, 8, 8, 8, 8, 8, 8, 8, 8, 8, 8, 8, 8, 8, 8, 8, 8, 8, 8, 8, 8, 8, 8, 8, 8, 8, 8, 8, 8, 8, 8, 8, 8, 8, 8, 8, 8, 8, 8, 8, 8, 8, 8, 8, 8, 8, 8, 8, 8, 8, 8, 8, 8, 8, 8, 8, 8, 8, 8, 8, 8, 8, 8, 8, 8, 8, 8, 8, 8, 8, 8, 8, 8, 8, 8, 8] : List UInt8) (IntKind.u8.wrap x_6) fun b_8 => ckI (((b_8.toNat : Nat) : Int)) <| ckI (n_7 + ((b_8.toNat : Nat) : Int)) <| some (n_7 + ((b_8.toNat : Nat) : Int))
noncomputable def g_math_bits_Len64_j2 (x_4 : Int) (n_5 : Int) : Option (Int) :=
  if (decide (x_4 ≥ 256)) = true then (ckI (n_5 + 8) <| g_math_bits_Len64_j3 (x_4 / 2 ^ (8 : Int).toNat) (n_5 + 8)) else g_math_bits_Len64_j3 x_4 n_5
noncomputable def g_math_bits_Len64_j1 (x_2 : Int) (n_3 : Int) : Option (Int) :=
  if (decide (x_2 ≥ 65536)) = true then (ckI (n_3 + 16) <| g_math_bits_Len64_j2 (x_2 / 2 ^ (16 : Int).toNat) (n_3 + 16)) else g_math_bits_Len64_j2 x_2 n_3
noncomputable def g_math_bits_Len64 (x_1 : Int) : Option (Int) :=
  if (decide (x_1 ≥ 4294967296)) = true then (g_math_bits_Len64_j1 (x_1 / 2 ^ (32 : Int).toNat) 32) else g_math_bits_Len64_j1 x_1 0
noncomputable def g_math_bits_Len (x_1 : Int) : Option (Int) :=
  bd (g_math_bits_Len64 x_1) fun r_2 => some r_2
noncomputable def g_prizes_Prizes_j2 (l_9 : List Pay) : Option ((List Pay) × Int) :=
  some (l_9, 0)
noncomputable def g_prizes_Prizes_j3 : Option ((List Pay) × Int) :=
  g_prizes_Prizes_j2 ([] : List Pay)
noncomputable def g_prizes_Prizes_j5 : Option ((Unit) ⊕ ((List Pay) × Int)) :=
  up (g_prizes_Prizes_j3)
noncomputable def g_prizes_Prizes_l6 (v : Unit) : Option ((Unit) ⊕ ((Unit) ⊕ ((List Pay) × Int))) :=
  match v with | () => up (g_prizes_Prizes_j5)
noncomputable def g_prizes_Prizes_l4 (r_11 : Int) (v : Unit) : Option ((Unit) ⊕ ((List Pay) × Int)) :=
  match v with | () => loopO g_prizes_Prizes_l6 ()
noncomputable def g_prizes_Prizes_j1 (l_8 : List Pay) : Option ((List Pay) × Int) :=
  if l_8 = [] then (bd (g_math_bits_Len 0) fun r_11 => loopO (g_prizes_Prizes_l4 r_11) ()) else ck ((l_8.map (·.c)).Nodup) <| ck (l_8.length < 4611686018427387904) <| g_prizes_Prizes_j2 (srtP l_8)
noncomputable def g_prizes_Prizes_j9 (v_20 : Nat) (l_18 : List (List Place)) (rest_26 : List Int) (l_27 : List Pay) : Option (((List Int) × Nat × (List Pay)) ⊕ ((List Pay) × Int)) :=
  ckI (((v_20 : Nat) : Int) + 1) <| some (.inl (rest_26, v_20 + 1, l_27))
noncomputable def g_prizes_Prizes_j12 (v_38 : Nat) (s_34 : List Int) (x_29 : (List Place)) (l_18 : List (List Place)) (v_20 : Nat) (r_36 : List Int) (l_51 : List Pay) : Option ((Nat × (List Pay)) ⊕ (((List Int) × Nat × (List Pay)) ⊕ ((List Pay) × Int))) :=
  ckI (((v_38 : Nat) : Int) + 1) <| some (.inl (v_38 + 1, l_51))
noncomputable def g_prizes_Prizes_l11 (r_36 : List Int) (x_29 : (List Place)) (s_34 : List Int) (l_18 : List (List Place)) (v_20 : Nat) (v : Nat × (List Pay)) : Option ((Nat × (List Pay)) ⊕ (((List Int) × Nat × (List Pay)) ⊕ ((List Pay) × Int))) :=
  match v with | (v_38, l_39) => if (decide (((v_38 : Nat) : Int) < ((r_36.length : Nat) : Int))) = true then (gn r_36 v_38 fun x_43 => gn x_29 v_38 fun x_47 => if (decide (x_43 > 0)) = true then (ck ((l_39.length + ([(⟨x_47.r.c, x_43⟩ : Pay)]).length) * 16 ≤ 140737488355328) <| g_prizes_Prizes_j12 v_38 s_34 x_29 l_18 v_20 r_36 (l_39 ++ [(⟨x_47.r.c, x_43⟩ : Pay)])) else g_prizes_Prizes_j12 v_38 s_34 x_29 l_18 v_20 r_36 l_39) else up (g_prizes_Prizes_j9 v_20 l_18 s_34 l_39)
noncomputable def g_prizes_Prizes_j10 (rest_19 : List Int) (x_29 : (List Place)) (l_18 : List (List Place)) (v_20 : Nat) (l_21 : List Pay) (sum_33 : Int) : Option (((List Int) × Nat × (List Pay)) ⊕ ((List Pay) × Int)) :=
  sb rest_19 (some ((x_29.length : Nat) : Int)) none fun s_34 => bd (g_prizes_equal sum_33 ((x_29.length : Nat) : Int)) fun r_36 => loopO (g_prizes_Prizes_l11 r_36 x_29 s_34 l_18 v_20) (0, l_21)
noncomputable def g_prizes_Prizes_l13 (s_55 : List Int) (rest_19 : List Int) (x_29 : (List Place)) (l_18 : List (List Place)) (v_20 : Nat) (l_21 : List Pay) (v : Int × Nat) : Option ((Int × Nat) ⊕ (((List Int) × Nat × (List Pay)) ⊕ ((List Pay) × Int))) :=
  match v with | (sum_57, v_58) => if (decide (((v_58 : Nat) : Int) < ((s_55.length : Nat) : Int))) = true then (gn s_55 v_58 fun x_62 => ckI (sum_57 + x_62) <| ckI (((v_58 : Nat) : Int) + 1) <| some (.inl ((sum_57 + x_62), v_58 + 1))) else up (g_prizes_Prizes_j10 rest_19 x_29 l_18 v_20 l_21 sum_57)
noncomputable def g_prizes_Prizes_l8 (l_18 : List (List Place)) (v : (List Int) × Nat × (List Pay)) : Option (((List Int) × Nat × (List Pay)) ⊕ ((List Pay) × Int)) :=
  match v with | (rest_19, v_20, l_21) => if (decide (((v_20 : Nat) : Int) < ((l_18.length : Nat) : Int))) = true then (gn l_18 v_20 fun x_29 => sb rest_19 none (some ((x_29.length : Nat) : Int)) fun s_55 => loopO (g_prizes_Prizes_l13 s_55 rest_19 x_29 l_18 v_20 l_21) (0, 0)) else up (g_prizes_Prizes_j1 l_21)
noncomputable def g_prizes_Prizes_j7 (r_6 : List Int) (l_18 : List (List Place)) : Option ((List Pay) × Int) :=
  loopO (g_prizes_Prizes_l8 l_18) (r_6, 0, ([] : List Pay))
noncomputable def g_prizes_Prizes_j14 (r_6 : List Int) : Option ((List Pay) × Int) :=
  g_prizes_Prizes_j7 r_6 ([] : List (List Place))
noncomputable def g_prizes_Prizes_j15 (r_6 : List Int) (l_68 : List (List Place)) (l_69 : List Place) : Option ((List Pay) × Int) :=
  g_prizes_Prizes_j7 r_6 (l_68 ++ [l_69])
noncomputable def g_prizes_Prizes_j17 (v_71 : Nat) (t_1 : Tab) (l_83 : List (List Place)) (l_84 : List Place) : Option (((Unit) ⊕ (Nat × (List (List Place)) × (List Place))) ⊕ ((List Pay) × Int)) :=
  ckI (((v_71 : Nat) : Int) + 1) <| some (.inl (.inr (v_71 + 1, l_83, l_84)))
noncomputable def g_prizes_Prizes_j18 (l_72 : List (List Place)) (l_73 : List Place) (x_86 : Place) (v_71 : Nat) (t_1 : Tab) (v_90 : Bool) : Option (((Unit) ⊕ (Nat × (List (List Place)) × (List Place))) ⊕ ((List Pay) × Int)) :=
  if (v_90) = true then (ckI (((l_72.length + 1 : Nat) : Int) - 1) <| ck (0 ≤ ((((l_72.length + 1 : Nat) : Int) - 1) : Int) ∧ ((((l_72.length + 1 : Nat) : Int) - 1) : Int) < ((l_72.length + 1 : Nat) : Int)) <| ck (((((l_72.length + 1 : Nat) : Int) - 1)).toNat = l_72.length) <| ck ((l_73.length + ([x_86]).length) * 120 ≤ 140737488355328) <| g_prizes_Prizes_j17 v_71 t_1 l_72 (l_73 ++ [x_86])) else ck ((l_72.length + 1 + 1) * 24 ≤ 140737488355328) <| g_prizes_Prizes_j17 v_71 t_1 (l_72 ++ [l_73]) ([x_86])
noncomputable def g_prizes_Prizes_l16 (t_1 : Tab) (r_6 : List Int) (v : (Unit) ⊕ (Nat × (List (List Place)) × (List Place))) : Option (((Unit) ⊕ (Nat × (List (List Place)) × (List Place))) ⊕ ((List Pay) × Int)) :=
  match v with 
  | (.inl _) => if (decide (0 < ((t_1.l.length : Nat) : Int))) = true then (gn t_1.l 0 fun x_78 => some (.inl (.inr (1, ([] : List (List Place)), [x_78])))) else up (g_prizes_Prizes_j14 r_6) 
  | (.inr (v_71, l_72, l_73)) => if (decide (((v_71 : Nat) : Int) < ((t_1.l.length : Nat) : Int))) = true then (gn t_1.l v_71 fun x_86 => if (decide (((v_71 : Nat) : Int) > 0)) = true then (ckI (((v_71 : Nat) : Int) - 1) <| gt t_1.l (((v_71 : Nat) : Int) - 1) fun x_99 => bd (g_prizes_Prizes_2 x_99 x_86) fun r_103 => g_prizes_Prizes_j18 l_72 l_73 x_86 v_71 t_1 (r_103)) else g_prizes_Prizes_j18 l_72 l_73 x_86 v_71 t_1 false) else up (g_prizes_Prizes_j15 r_6 l_72 l_73)
noncomputable def g_prizes_Prizes (t_1 : Tab) (s_2 : Sch) : Option ((List Pay) × Int) :=
  bd (g_prizes_fits t_1 s_2) fun r_3 => if (r_3 != 0) = true then (some (([] : List Pay), r_3)) else bd (g_prizes_parts s_2) fun r_6 => loopO (g_prizes_Prizes_l16 t_1 r_6) (.inl ())
noncomputable def g_prizes_of_j3 (tables_1 : List Tab) (v_4 : Int) (schemes_2 : List Sch) (v_5 : Int) (v_6 : Bool) : Option (League × Bool) :=
  if (v_6) = true then (some ((⟨(⟨0, 0, ([] : List Place)⟩ : Tab), (⟨0, ([] : List Prize), 0, 0, 0, 0⟩ : Sch)⟩ : League), false)) else gt tables_1 v_4 fun x_8 => gt schemes_2 v_5 fun x_12 => some ((⟨x_8, x_12⟩ : League), true)
noncomputable def g_prizes_of_j2 (v_4 : Int) (tables_1 : List Tab) (schemes_2 : List Sch) (v_5 : Int) : Option (League × Bool) :=
  if (decide (v_4 < 0)) = true then (g_prizes_of_j3 tables_1 v_4 schemes_2 v_5 true) else g_prizes_of_j3 tables_1 v_4 schemes_2 v_5 (decide (v_5 < 0))
noncomputable def g_prizes_of_j4 (v_4 : Int) (tables_1 : List Tab) (schemes_2 : List Sch) : Option (League × Bool) :=
  g_prizes_of_j2 v_4 tables_1 schemes_2 (-1)
noncomputable def g_prizes_of_l5 (schemes_2 : List Sch) (comp_3 : Int) (v_4 : Int) (tables_1 : List Tab) (v : Nat) : Option ((Nat) ⊕ (League × Bool)) :=
  match v with | v_17 => if (decide (((v_17 : Nat) : Int) < ((schemes_2.length : Nat) : Int))) = true then (gn schemes_2 v_17 fun x_20 => if (x_20.c == comp_3) = true then (up (g_prizes_of_j2 v_4 tables_1 schemes_2 ((v_17 : Nat) : Int))) else ckI (((v_17 : Nat) : Int) + 1) <| some (.inl (v_17 + 1))) else up (g_prizes_of_j4 v_4 tables_1 schemes_2)
noncomputable def g_prizes_of_j1 (schemes_2 : List Sch) (comp_3 : Int) (tables_1 : List Tab) (v_4 : Int) : Option (League × Bool) :=
  loopO (g_prizes_of_l5 schemes_2 comp_3 v_4 tables_1) 0
noncomputable def g_prizes_of_j6 (schemes_2 : List Sch) (comp_3 : Int) (tables_1 : List Tab) : Option (League × Bool) :=
  g_prizes_of_j1 schemes_2 comp_3 tables_1 (-1)
noncomputable def g_prizes_of_l7 (tables_1 : List Tab) (comp_3 : Int) (schemes_2 : List Sch) (v : Nat) : Option ((Nat) ⊕ (League × Bool)) :=
  match v with | v_26 => if (decide (((v_26 : Nat) : Int) < ((tables_1.length : Nat) : Int))) = true then (gn tables_1 v_26 fun x_29 => if (x_29.c == comp_3) = true then (up (g_prizes_of_j1 schemes_2 comp_3 tables_1 ((v_26 : Nat) : Int))) else ckI (((v_26 : Nat) : Int) + 1) <| some (.inl (v_26 + 1))) else up (g_prizes_of_j6 schemes_2 comp_3 tables_1)
noncomputable def g_prizes_of (tables_1 : List Tab) (schemes_2 : List Sch) (comp_3 : Int) : Option (League × Bool) :=
  loopO (g_prizes_of_l7 tables_1 comp_3 schemes_2) 0
noncomputable def g_prizes_clubs_j1 (l_2 : List Int) : Option (List Int) :=
  ck (l_2.length < 4611686018427387904) <| some (srtI l_2)
noncomputable def g_prizes_clubs_l2 (l_1 : List Place) (v : Nat × (List Int)) : Option ((Nat × (List Int)) ⊕ (List Int)) :=
  match v with | (v_4, l_5) => if (decide (((v_4 : Nat) : Int) < ((l_1.length : Nat) : Int))) = true then (gn l_1 v_4 fun x_9 => ck ((l_5.length + ([x_9.r.c]).length) * 8 ≤ 140737488355328) <| ckI (((v_4 : Nat) : Int) + 1) <| some (.inl (v_4 + 1, (l_5 ++ [x_9.r.c])))) else up (g_prizes_clubs_j1 l_5)
noncomputable def g_prizes_clubs (l_1 : List Place) : Option (List Int) :=
  loopO (g_prizes_clubs_l2 l_1) (0, ([] : List Int))
noncomputable def g_prizes_Moves (t_1 : Tab) (s_2 : Sch) : Option ((List Int) × (List Int) × Int) :=
  bd (g_prizes_fits t_1 s_2) fun r_3 => if (r_3 != 0) = true then (some (([] : List Int), ([] : List Int), r_3)) else ckI (s_2.u + s_2.d) <| if (decide ((s_2.u + s_2.d) > ((t_1.l.length : Nat) : Int))) = true then (some (([] : List Int), ([] : List Int), 420)) else sb t_1.l none (some s_2.u) fun s_8 => bd (g_prizes_clubs s_8) fun r_10 => ckI (((t_1.l.length : Nat) : Int) - s_2.d) <| sb t_1.l (some (((t_1.l.length : Nat) : Int) - s_2.d)) none fun s_13 => bd (g_prizes_clubs s_13) fun r_15 => some (r_10, r_15, 0)
noncomputable def g_slices_Index_Lint_int_j1 : Option (Int) :=
  some (-1)
noncomputable def g_slices_Index_Lint_int_l2 (s_1 : List Int) (v_2 : Int) (v : Nat) : Option ((Nat) ⊕ (Int)) :=
  match v with | v_3 => if (decide (((v_3 : Nat) : Int) < ((s_1.length : Nat) : Int))) = true then (gn s_1 v_3 fun x_6 => if (v_2 == x_6) = true then (up (some ((v_3 : Nat) : Int))) else ckI (((v_3 : Nat) : Int) + 1) <| some (.inl (v_3 + 1))) else up (g_slices_Index_Lint_int_j1)
noncomputable def g_slices_Index_Lint_int (s_1 : List Int) (v_2 : Int) : Option (Int) :=
  loopO (g_slices_Index_Lint_int_l2 s_1 v_2) 0
noncomputable def g_slices_Contains_Lint_int (s_1 : List Int) (v_2 : Int) : Option (Bool) :=
  bd (g_slices_Index_Lint_int s_1 v_2) fun r_3 => some (decide (r_3 ≥ 0))
noncomputable def g_prizes_Next_j6 (m_19 : List Int) (v_20 : Bool) : Option ((List Int) × Int) :=
  if (v_20) = true then (some (([] : List Int), 190)) else ck (m_19.Pairwise (· < ·)) <| ck (m_19.length < 17592186044416) <| some (m_19, 0)
noncomputable def g_prizes_Next_j5 (v_18 : Nat) (m_19 : List Int) : Option ((List Int) × Int) :=
  if (((m_19.length : Nat) : Int) != ((v_18 : Nat) : Int)) = true then (g_prizes_Next_j6 m_19 true) else if (decide (((v_18 : Nat) : Int) < 2)) = true then (g_prizes_Next_j6 m_19 true) else g_prizes_Next_j6 m_19 (decide (((v_18 : Nat) : Int) > 24))
noncomputable def g_prizes_Next_l7 (p_16 : Nat) (l_17 : List Int) (p_15 : Nat) (v : Nat × Nat × (List Int)) : Option ((Nat × Nat × (List Int)) ⊕ ((List Int) × Int)) :=
  match v with | (v_26, v_27, m_28) => if (decide (((v_26 : Nat) : Int) < ((p_16 : Nat) : Int))) = true then (ck (0 ≤ (((v_26 : Nat) : Int) : Int) ∧ (((v_26 : Nat) : Int) : Int) < ((p_16 : Nat) : Int)) <| gn l_17 (p_15 + v_26) fun x_34 => ckI (x_34) <| ck (m_28.length < maxLen) <| ckI (((v_27 : Nat) : Int) + 1) <| ckI (((v_26 : Nat) : Int) + 1) <| some (.inl (v_26 + 1, v_27 + 1, (sput m_28 x_34)))) else up (g_prizes_Next_j5 v_27 m_28)
noncomputable def g_prizes_Next_j4 (v_12 : Nat) (m_13 : List Int) (p_15 : Nat) (p_16 : Nat) (l_17 : List Int) : Option ((List Int) × Int) :=
  loopO (g_prizes_Next_l7 p_16 l_17 p_15) (0, v_12, m_13)
noncomputable def g_prizes_Next_j9 (v_12 : Nat) (m_13 : List Int) (i_44 : Int) (l_45 : List Int) : Option ((List Int) × Int) :=
  sbp l_45.length (some i_44) none fun p_46 m_47 => ck (p_46 + m_47 ≤ l_45.length) <| sbp (l_45.take p_46 ++ List.replicate m_47 (0 : Int) ++ l_45.drop (p_46 + m_47)).length none (some i_44) fun p_50 m_51 => g_prizes_Next_j4 v_12 m_13 p_50 m_51 (l_45.take p_46 ++ List.replicate m_47 (0 : Int) ++ l_45.drop (p_46 + m_47))
noncomputable def g_prizes_Next_j11 (j_55 : Int) (r_7 : (List Int) × (List Int) × Int) (v_12 : Nat) (m_13 : List Int) (i_61 : Int) (l_62 : List Int) : Option ((Int × Int × (List Int)) ⊕ ((List Int) × Int)) :=
  ckI (j_55 + 1) <| some (.inl (i_61, (j_55 + 1), l_62))
noncomputable def g_prizes_Next_j12 (l_56 : List Int) (i_54 : Int) (j_55 : Int) (r_7 : (List Int) × (List Int) × Int) (v_12 : Nat) (m_13 : List Int) (x_64 : Int) (v_68 : Bool) : Option ((Int × Int × (List Int)) ⊕ ((List Int) × Int)) :=
  if (!(v_68)) = true then (gt l_56 i_54 fun x_70 => ckI (i_54 + 1) <| g_prizes_Next_j11 j_55 r_7 v_12 m_13 (i_54 + 1) (l_56.set (i_54).toNat x_64)) else g_prizes_Next_j11 j_55 r_7 v_12 m_13 i_54 l_56
noncomputable def g_prizes_Next_l10 (r_7 : (List Int) × (List Int) × Int) (v_12 : Nat) (m_13 : List Int) (v : Int × Int × (List Int)) : Option ((Int × Int × (List Int)) ⊕ ((List Int) × Int)) :=
  match v with | (i_54, j_55, l_56) => if (decide (j_55 < ((l_56.length : Nat) : Int))) = true then (gt l_56 j_55 fun x_64 => bd (g_slices_Contains_Lint_int r_7.1 x_64) fun r_75 => if (r_75) = true then (g_prizes_Next_j12 l_56 i_54 j_55 r_7 v_12 m_13 x_64 true) else bd (g_slices_Contains_Lint_int r_7.2.1 x_64) fun r_78 => g_prizes_Next_j12 l_56 i_54 j_55 r_7 v_12 m_13 x_64 (r_78)) else up (g_prizes_Next_j9 v_12 m_13 i_54 l_56)
noncomputable def g_prizes_Next_j8 (v_12 : Nat) (m_13 : List Int) (l_14 : List Int) (r_7 : (List Int) × (List Int) × Int) (v_42 : Int) : Option ((List Int) × Int) :=
  if (v_42 == (-1)) = true then (g_prizes_Next_j4 v_12 m_13 0 ((l_14.map elI).length) l_14) else ckI (v_42 + 1) <| loopO (g_prizes_Next_l10 r_7 v_12 m_13) (v_42, (v_42 + 1), l_14)
noncomputable def g_prizes_Next_j13 (v_12 : Nat) (m_13 : List Int) (l_14 : List Int) (r_7 : (List Int) × (List Int) × Int) : Option ((List Int) × Int) :=
  g_prizes_Next_j8 v_12 m_13 l_14 r_7 (-1)
noncomputable def g_prizes_Next_j15 (v_12 : Nat) (m_13 : List Int) (l_14 : List Int) (r_7 : (List Int) × (List Int) × Int) (v_80 : Nat) (v_87 : Bool) : Option ((Nat) ⊕ ((List Int) × Int)) :=
  if (v_87) = true then (up (g_prizes_Next_j8 v_12 m_13 l_14 r_7 ((v_80 : Nat) : Int))) else ckI (((v_80 : Nat) : Int) + 1) <| some (.inl (v_80 + 1))
noncomputable def g_prizes_Next_l14 (l_14 : List Int) (r_7 : (List Int) × (List Int) × Int) (v_12 : Nat) (m_13 : List Int) (v : Nat) : Option ((Nat) ⊕ ((List Int) × Int)) :=
  match v with | v_80 => if (decide (((v_80 : Nat) : Int) < ((l_14.length : Nat) : Int))) = true then (gn l_14 v_80 fun x_83 => bd (g_slices_Contains_Lint_int r_7.1 x_83) fun r_90 => if (r_90) = true then (g_prizes_Next_j15 v_12 m_13 l_14 r_7 v_80 true) else bd (g_slices_Contains_Lint_int r_7.2.1 x_83) fun r_93 => g_prizes_Next_j15 v_12 m_13 l_14 r_7 v_80 (r_93)) else up (g_prizes_Next_j13 v_12 m_13 l_14 r_7)
noncomputable def g_prizes_Next_j3 (r_7 : (List Int) × (List Int) × Int) (v_12 : Nat) (m_13 : List Int) (l_14 : List Int) : Option ((List Int) × Int) :=
  loopO (g_prizes_Next_l14 l_14 r_7 v_12 m_13) 0
noncomputable def g_prizes_Next_j16 (r_7 : (List Int) × (List Int) × Int) (v_12 : Nat) (m_13 : List Int) (l_95 : List Int) : Option ((List Int) × Int) :=
  ck (l_95.length < 4611686018427387904) <| g_prizes_Next_j3 r_7 v_12 m_13 (srtI l_95)
noncomputable def g_prizes_Next_l17 (r_4 : League × Bool) (r_7 : (List Int) × (List Int) × Int) (v_12 : Nat) (m_13 : List Int) (v : Nat × (List Int)) : Option ((Nat × (List Int)) ⊕ ((List Int) × Int)) :=
  match v with | (v_97, l_98) => if (decide (((v_97 : Nat) : Int) < ((r_4.1.table.l.length : Nat) : Int))) = true then (gn r_4.1.table.l v_97 fun x_102 => ck ((l_98.length + ([x_102.r.c]).length) * 8 ≤ 140737488355328) <| ckI (((v_97 : Nat) : Int) + 1) <| some (.inl (v_97 + 1, (l_98 ++ [x_102.r.c])))) else up (g_prizes_Next_j16 r_7 v_12 m_13 l_98)
noncomputable def g_prizes_Next_j2 (r_4 : League × Bool) (r_7 : (List Int) × (List Int) × Int) (v_12 : Nat) (m_13 : List Int) : Option ((List Int) × Int) :=
  loopO (g_prizes_Next_l17 r_4 r_7 v_12 m_13) (0, ([] : List Int))
noncomputable def g_prizes_Next_j19 (r_4 : League × Bool) (r_7 : (List Int) × (List Int) × Int) (v_116 : Nat) (m_117 : List Int) : Option ((List Int) × Int) :=
  g_prizes_Next_j2 r_4 r_7 v_116 m_117
noncomputable def g_prizes_Next_l20 (r_113 : (List Int) × (List Int) × Int) (r_4 : League × Bool) (r_7 : (List Int) × (List Int) × Int) (v : Nat × Nat × (List Int)) : Option ((Nat × Nat × (List Int)) ⊕ ((List Int) × Int)) :=
  match v with | (v_118, v_119, m_120) => if (decide (((v_118 : Nat) : Int) < ((r_113.1.length : Nat) : Int))) = true then (gn r_113.1 v_118 fun x_125 => ckI (x_125) <| ck (m_120.length < maxLen) <| ckI (((v_119 : Nat) : Int) + 1) <| ckI (((v_118 : Nat) : Int) + 1) <| some (.inl (v_118 + 1, v_119 + 1, (sput m_120 x_125)))) else up (g_prizes_Next_j19 r_4 r_7 v_119 m_120)
noncomputable def g_prizes_Next_j18 (r_109 : League × Bool) (r_4 : League × Bool) (r_7 : (List Int) × (List Int) × Int) (v_10 : Nat) (m_11 : List Int) (v_111 : Bool) : Option ((List Int) × Int) :=
  if (v_111) = true then (some (([] : List Int), 420)) else bd (g_prizes_Moves r_109.1.table r_109.1.scheme) fun r_113 => if (r_113.2.2 != 0) = true then (some (([] : List Int), r_113.2.2)) else loopO (g_prizes_Next_l20 r_113 r_4 r_7) (0, v_10, m_11)
noncomputable def g_prizes_Next_j1 (r_4 : League × Bool) (tables_1 : List Tab) (schemes_2 : List Sch) (r_7 : (List Int) × (List Int) × Int) (comp_3 : Int) (v_10 : Nat) (m_11 : List Int) : Option ((List Int) × Int) :=
  if (r_4.1.scheme.be != (-1)) = true then (bd (g_prizes_of tables_1 schemes_2 r_4.1.scheme.be) fun r_109 => if (!(r_109.2)) = true then (g_prizes_Next_j18 r_109 r_4 r_7 v_10 m_11 true) else if (r_109.1.table.s != r_4.1.table.s) = true then (g_prizes_Next_j18 r_109 r_4 r_7 v_10 m_11 true) else g_prizes_Next_j18 r_109 r_4 r_7 v_10 m_11 (r_109.1.scheme.ab != comp_3)) else g_prizes_Next_j2 r_4 r_7 v_10 m_11
noncomputable def g_prizes_Next_j22 (r_4 : League × Bool) (tables_1 : List Tab) (schemes_2 : List Sch) (r_7 : (List Int) × (List Int) × Int) (comp_3 : Int) (v_143 : Nat) (m_144 : List Int) : Option ((List Int) × Int) :=
  g_prizes_Next_j1 r_4 tables_1 schemes_2 r_7 comp_3 v_143 m_144
noncomputable def g_prizes_Next_l23 (r_140 : (List Int) × (List Int) × Int) (r_4 : League × Bool) (tables_1 : List Tab) (schemes_2 : List Sch) (r_7 : (List Int) × (List Int) × Int) (comp_3 : Int) (v : Nat × Nat × (List Int)) : Option ((Nat × Nat × (List Int)) ⊕ ((List Int) × Int)) :=
  match v with | (v_145, v_146, m_147) => if (decide (((v_145 : Nat) : Int) < ((r_140.2.1.length : Nat) : Int))) = true then (gn r_140.2.1 v_145 fun x_152 => ckI (x_152) <| ck (m_147.length < maxLen) <| ckI (((v_146 : Nat) : Int) + 1) <| ckI (((v_145 : Nat) : Int) + 1) <| some (.inl (v_145 + 1, v_146 + 1, (sput m_147 x_152)))) else up (g_prizes_Next_j22 r_4 tables_1 schemes_2 r_7 comp_3 v_146 m_147)
noncomputable def g_prizes_Next_j21 (r_136 : League × Bool) (r_4 : League × Bool) (tables_1 : List Tab) (schemes_2 : List Sch) (r_7 : (List Int) × (List Int) × Int) (comp_3 : Int) (v_138 : Bool) : Option ((List Int) × Int) :=
  if (v_138) = true then (some (([] : List Int), 420)) else bd (g_prizes_Moves r_136.1.table r_136.1.scheme) fun r_140 => if (r_140.2.2 != 0) = true then (some (([] : List Int), r_140.2.2)) else loopO (g_prizes_Next_l23 r_140 r_4 tables_1 schemes_2 r_7 comp_3) (0, 0, ([] : List Int))
noncomputable def g_prizes_Next (tables_1 : List Tab) (schemes_2 : List Sch) (comp_3 : Int) : Option ((List Int) × Int) :=
  bd (g_prizes_of tables_1 schemes_2 comp_3) fun r_4 => if (!(r_4.2)) = true then (some (([] : List Int), 420)) else bd (g_prizes_Moves r_4.1.table r_4.1.scheme) fun r_7 => if (r_7.2.2 != 0) = true then (some (([] : List Int), r_7.2.2)) else if (r_4.1.scheme.ab != (-1)) = true then (bd (g_prizes_of tables_1 schemes_2 r_4.1.scheme.ab) fun r_136 => if (!(r_136.2)) = true then (g_prizes_Next_j21 r_136 r_4 tables_1 schemes_2 r_7 comp_3 true) else if (r_136.1.table.s != r_4.1.table.s) = true then (g_prizes_Next_j21 r_136 r_4 tables_1 schemes_2 r_7 comp_3 true) else g_prizes_Next_j21 r_136 r_4 tables_1 schemes_2 r_7 comp_3 (r_136.1.scheme.be != comp_3)) else g_prizes_Next_j1 r_4 tables_1 schemes_2 r_7 comp_3 0 ([] : List Int)
noncomputable def g_ref42_Same_j1 : Option (Bool) :=
  some true
noncomputable def g_ref42_Same_l2 (a_1 : List Pay) (b_2 : List Pay) (v : Nat) : Option ((Nat) ⊕ (Bool)) :=
  match v with | i_4 => if (decide (((i_4 : Nat) : Int) < ((a_1.length : Nat) : Int))) = true then (gn a_1 i_4 fun x_7 => gn b_2 i_4 fun x_11 => if (!((x_7.c == x_11.c) && ((x_7.a == x_11.a) && true))) = true then (up (some false)) else ckI (((i_4 : Nat) : Int) + 1) <| some (.inl (i_4 + 1))) else up (g_ref42_Same_j1)
noncomputable def g_ref42_Same (a_1 : List Pay) (b_2 : List Pay) : Option (Bool) :=
  if (((a_1.length : Nat) : Int) != ((b_2.length : Nat) : Int)) = true then (some false) else loopO (g_ref42_Same_l2 a_1 b_2) 0
noncomputable def g_ref42_SameInts_j1 : Option (Bool) :=
  some true
noncomputable def g_ref42_SameInts_l2 (a_1 : List Int) (b_2 : List Int) (v : Nat) : Option ((Nat) ⊕ (Bool)) :=
  match v with | i_4 => if (decide (((i_4 : Nat) : Int) < ((a_1.length : Nat) : Int))) = true then (gn a_1 i_4 fun x_7 => gn b_2 i_4 fun x_11 => if (x_7 != x_11) = true then (up (some false)) else ckI (((i_4 : Nat) : Int) + 1) <| some (.inl (i_4 + 1))) else up (g_ref42_SameInts_j1)
noncomputable def g_ref42_SameInts (a_1 : List Int) (b_2 : List Int) : Option (Bool) :=
  if (((a_1.length : Nat) : Int) != ((b_2.length : Nat) : Int)) = true then (some false) else loopO (g_ref42_SameInts_l2 a_1 b_2) 0
noncomputable def g_law42_sane_j1 (r_3 : (List Pay) × Int) (r_5 : (List Int) × Int) (v_13 : Bool) : Option (Bool) :=
  if (v_13) = true then (some false) else bd (g_ref42_Same r_3.1 ([(⟨4, 51⟩ : Pay), (⟨9, 50⟩ : Pay)])) fun r_15 => if (r_15) = true then (bd (g_ref42_SameInts r_5.1 ([(4 : Int), (9 : Int)])) fun r_18 => if (r_18) = true then (bd (g_prizes_Check (⟨2, [(⟨1, 2, 101⟩ : Prize)], 0, 0, (-1), (-1)⟩ : Sch)) fun r_21 => if (r_21 == 0) = true then (bd (g_prizes_Check (⟨2, [(⟨1, 2, 101⟩ : Prize), (⟨2, 2, 1⟩ : Prize)], 0, 0, (-1), (-1)⟩ : Sch)) fun r_24 => if (r_24 == 420) = true then (bd (g_prizes_Check (⟨0, ([] : List Prize), 0, 0, 0, 0⟩ : Sch)) fun r_27 => some (r_27 == 420)) else some false) else some false) else some false) else some false
noncomputable def g_law42_sane : Option (Bool) :=
  bd (g_law42_level 2 ([(4 : Int), (9 : Int)])) fun r_1 => bd (g_prizes_Prizes r_1 (⟨2, [(⟨1, 2, 101⟩ : Prize)], 0, 0, (-1), (-1)⟩ : Sch)) fun r_3 => bd (g_prizes_Next ([r_1]) ([(⟨2, [(⟨1, 2, 101⟩ : Prize)], 0, 0, (-1), (-1)⟩ : Sch)]) 2) fun r_5 => bd (g_prizes_Next ([] : List Tab) ([] : List Sch) 0) fun r_7 => bd (g_prizes_Prizes (⟨0, 0, ([] : List Place)⟩ : Tab) (⟨2, [(⟨1, 2, 101⟩ : Prize)], 0, 0, (-1), (-1)⟩ : Sch)) fun r_9 => bd (g_prizes_Moves r_1 (⟨2, [(⟨1, 2, 101⟩ : Prize)], 3, 0, 1, (-1)⟩ : Sch)) fun r_11 => if (r_3.2 != 0) = true then (g_law42_sane_j1 r_3 r_5 true) else if (r_5.2 != 0) = true then (g_law42_sane_j1 r_3 r_5 true) else if (r_7.2 != 420) = true then (g_law42_sane_j1 r_3 r_5 true) else bd (g_table_Check (⟨0, 0, ([] : List Place)⟩ : Tab)) fun r_32 => if (r_9.2 != r_32) = true then (g_law42_sane_j1 r_3 r_5 true) else if (r_9.2 == 0) = true then (g_law42_sane_j1 r_3 r_5 true) else g_law42_sane_j1 r_3 r_5 (r_11.2.2 != 420)
noncomputable def g_ref42_Few_j3 : Option (Bool) :=
  some true
noncomputable def g_ref42_Few_l4 (schemes_2 : List Sch) (v : Nat) : Option ((Nat) ⊕ (Bool)) :=
  match v with | i_5 => if (decide (((i_5 : Nat) : Int) < ((schemes_2.length : Nat) : Int))) = true then (gn schemes_2 i_5 fun x_8 => if (decide (((x_8.p.length : Nat) : Int) > 30)) = true then (up (some false)) else ckI (((i_5 : Nat) : Int) + 1) <| some (.inl (i_5 + 1))) else up (g_ref42_Few_j3)
noncomputable def g_ref42_Few_j2 (schemes_2 : List Sch) : Option (Bool) :=
  loopO (g_ref42_Few_l4 schemes_2) 0
noncomputable def g_ref42_Few_l5 (tables_1 : List Tab) (schemes_2 : List Sch) (v : Nat) : Option ((Nat) ⊕ (Bool)) :=
  match v with | i_14 => if (decide (((i_14 : Nat) : Int) < ((tables_1.length : Nat) : Int))) = true then (gn tables_1 i_14 fun x_17 => if (decide (((x_17.l.length : Nat) : Int) > 30)) = true then (up (some false)) else ckI (((i_14 : Nat) : Int) + 1) <| some (.inl (i_14 + 1))) else up (g_ref42_Few_j2 schemes_2)
noncomputable def g_ref42_Few_j1 (tables_1 : List Tab) (schemes_2 : List Sch) (v_3 : Bool) : Option (Bool) :=
  if (v_3) = true then (some false) else loopO (g_ref42_Few_l5 tables_1 schemes_2) 0
noncomputable def g_ref42_Few (tables_1 : List Tab) (schemes_2 : List Sch) : Option (Bool) :=
  if (decide (((tables_1.length : Nat) : Int) > 5)) = true then (g_ref42_Few_j1 tables_1 schemes_2 true) else g_ref42_Few_j1 tables_1 schemes_2 (decide (((schemes_2.length : Nat) : Int) > 5))
noncomputable def g_law42_PrizesConserve_j5 (m_12 : List (Int × Int)) (m_10 : List Int) : Option (Bool) :=
  some (((m_12.length : Nat) : Int) == ((m_10.length : Nat) : Int))
noncomputable def g_law42_PrizesConserve_j4 (m_10 : List Int) (m_12 : List (Int × Int)) : Option (Bool) :=
  ck (m_10.Nodup) <| allO m_10 fun ks => rangeO (fun (c : Int) (_ : Unit) => ckI (c) <| if ((mget m_12 c) != 1) = true then (up (some false)) else some (.inl ())) (fun (_ : Unit) => g_law42_PrizesConserve_j5 m_12 m_10) ks ()
noncomputable def g_law42_PrizesConserve_j7 (i_15 : Nat) (tables_1 : List Tab) (schemes_2 : List Sch) (m_10 : List Int) (m_20 : List (Int × Int)) : Option ((Nat × (List (Int × Int))) ⊕ (Bool)) :=
  ckI (((i_15 : Nat) : Int) + 1) <| some (.inl (i_15 + 1, m_20))
noncomputable def g_law42_PrizesConserve_l8 (r_26 : (List Int) × Int) (i_15 : Nat) (tables_1 : List Tab) (schemes_2 : List Sch) (m_10 : List Int) (v : Nat × (List (Int × Int))) : Option ((Nat × (List (Int × Int))) ⊕ ((Nat × (List (Int × Int))) ⊕ (Bool))) :=
  match v with | (k_29, m_30) => if (decide (((k_29 : Nat) : Int) < ((r_26.1.length : Nat) : Int))) = true then (gn r_26.1 k_29 fun x_34 => ckI (x_34) <| ckI ((mget m_30 x_34) + 1) <| ckI (((mget m_30 x_34) + 1)) <| ck (m_30.length < maxLen) <| ckI (((k_29 : Nat) : Int) + 1) <| some (.inl (k_29 + 1, (mput m_30 x_34 ((mget m_30 x_34) + 1))))) else up (g_law42_PrizesConserve_j7 i_15 tables_1 schemes_2 m_10 m_30)
noncomputable def g_law42_PrizesConserve_l6 (tables_1 : List Tab) (schemes_2 : List Sch) (m_10 : List Int) (v : Nat × (List (Int × Int))) : Option ((Nat × (List (Int × Int))) ⊕ (Bool)) :=
  match v with | (i_15, m_16) => if (decide (((i_15 : Nat) : Int) < ((tables_1.length : Nat) : Int))) = true then (gn tables_1 i_15 fun x_22 => bd (g_prizes_Next tables_1 schemes_2 x_22.c) fun r_26 => if (r_26.2 != 0) = true then (up (some true)) else loopO (g_law42_PrizesConserve_l8 r_26 i_15 tables_1 schemes_2 m_10) (0, m_16)) else up (g_law42_PrizesConserve_j4 m_10 m_16)
noncomputable def g_law42_PrizesConserve_j3 (tables_1 : List Tab) (schemes_2 : List Sch) (m_10 : List Int) : Option (Bool) :=
  loopO (g_law42_PrizesConserve_l6 tables_1 schemes_2 m_10) (0, ([] : List (Int × Int)))
noncomputable def g_law42_PrizesConserve_j10 (i_43 : Nat) (tables_1 : List Tab) (schemes_2 : List Sch) (m_9 : List (Int × Sch)) (m_10 : List Int) (v_60 : Bool) : Option ((Nat) ⊕ (Bool)) :=
  if (v_60) = true then (up (some true)) else ckI (((i_43 : Nat) : Int) + 1) <| some (.inl (i_43 + 1))
noncomputable def g_law42_PrizesConserve_l9 (schemes_2 : List Sch) (m_9 : List (Int × Sch)) (tables_1 : List Tab) (m_10 : List Int) (v : Nat) : Option ((Nat) ⊕ (Bool)) :=
  match v with | i_43 => if (decide (((i_43 : Nat) : Int) < ((schemes_2.length : Nat) : Int))) = true then (gn schemes_2 i_43 fun x_46 => ckI (x_46.ab) <| letO ((lookM m_9 x_46.ab).getD (⟨0, ([] : List Prize), 0, 0, 0, 0⟩ : Sch)) fun v_51 => letO ((lookM m_9 x_46.ab).isSome) fun ok_53 => ckI (x_46.be) <| letO ((lookM m_9 x_46.be).getD (⟨0, ([] : List Prize), 0, 0, 0, 0⟩ : Sch)) fun v_56 => letO ((lookM m_9 x_46.be).isSome) fun ok_58 => if (x_46.ab != (-1)) = true then (if (!(ok_53)) = true then (g_law42_PrizesConserve_j10 i_43 tables_1 schemes_2 m_9 m_10 true) else if (v_51.be != x_46.c) = true then (g_law42_PrizesConserve_j10 i_43 tables_1 schemes_2 m_9 m_10 true) else if (x_46.be != (-1)) = true then (if (!(ok_58)) = true then (g_law42_PrizesConserve_j10 i_43 tables_1 schemes_2 m_9 m_10 true) else g_law42_PrizesConserve_j10 i_43 tables_1 schemes_2 m_9 m_10 (v_56.ab != x_46.c)) else g_law42_PrizesConserve_j10 i_43 tables_1 schemes_2 m_9 m_10 false) else if (x_46.be != (-1)) = true then (if (!(ok_58)) = true then (g_law42_PrizesConserve_j10 i_43 tables_1 schemes_2 m_9 m_10 true) else g_law42_PrizesConserve_j10 i_43 tables_1 schemes_2 m_9 m_10 (v_56.ab != x_46.c)) else g_law42_PrizesConserve_j10 i_43 tables_1 schemes_2 m_9 m_10 false) else up (g_law42_PrizesConserve_j3 tables_1 schemes_2 m_10)
noncomputable def g_law42_PrizesConserve_j2 (schemes_2 : List Sch) (tables_1 : List Tab) (all_8 : Nat) (m_9 : List (Int × Sch)) (m_10 : List Int) : Option (Bool) :=
  if (((m_10.length : Nat) : Int) != ((all_8 : Nat) : Int)) = true then (some true) else loopO (g_law42_PrizesConserve_l9 schemes_2 m_9 tables_1 m_10) 0
noncomputable def g_law42_PrizesConserve_j12 (i_71 : Nat) (tables_1 : List Tab) (schemes_2 : List Sch) (all_79 : Nat) (m_80 : List (Int × Sch)) (m_81 : List Int) : Option ((Nat × Nat × (List (Int × Sch)) × (List Int)) ⊕ (Bool)) :=
  ckI (((i_71 : Nat) : Int) + 1) <| some (.inl (all_79, i_71 + 1, m_80, m_81))
noncomputable def g_law42_PrizesConserve_l14 (x_83 : Tab) (i_71 : Nat) (tables_1 : List Tab) (schemes_2 : List Sch) (m_72 : List (Int × Sch)) (x_94 : Sch) (v : Nat × Nat × (List Int)) : Option ((Nat × Nat × (List Int)) ⊕ ((Nat × Nat × (List (Int × Sch)) × (List Int)) ⊕ (Bool))) :=
  match v with | (all_99, k_100, m_101) => if (decide (((k_100 : Nat) : Int) < ((x_83.l.length : Nat) : Int))) = true then (gn x_83.l k_100 fun x_106 => ckI (x_106.r.c) <| ck (m_101.length < maxLen) <| ckI (((all_99 : Nat) : Int) + 1) <| ckI (((k_100 : Nat) : Int) + 1) <| some (.inl (all_99 + 1, k_100 + 1, (sput m_101 x_106.r.c)))) else up (g_law42_PrizesConserve_j12 i_71 tables_1 schemes_2 all_99 (putM m_72 x_83.c x_94) m_101)
noncomputable def g_law42_PrizesConserve_j13 (schemes_2 : List Sch) (i_71 : Nat) (m_72 : List (Int × Sch)) (x_83 : Tab) (tables_1 : List Tab) (all_70 : Nat) (m_73 : List Int) (v_92 : Bool) : Option ((Nat × Nat × (List (Int × Sch)) × (List Int)) ⊕ (Bool)) :=
  if (v_92) = true then (up (some true)) else gn schemes_2 i_71 fun x_94 => ck (m_72.length < maxLen) <| loopO (g_law42_PrizesConserve_l14 x_83 i_71 tables_1 schemes_2 m_72 x_94) (all_70, 0, m_73)
noncomputable def g_law42_PrizesConserve_l11 (tables_1 : List Tab) (schemes_2 : List Sch) (v : Nat × Nat × (List (Int × Sch)) × (List Int)) : Option ((Nat × Nat × (List (Int × Sch)) × (List Int)) ⊕ (Bool)) :=
  match v with | (all_70, i_71, m_72, m_73) => if (decide (((i_71 : Nat) : Int) < ((tables_1.length : Nat) : Int))) = true then (gn tables_1 i_71 fun x_83 => ckI (x_83.c) <| letO ((lookM m_72 x_83.c).getD (⟨0, ([] : List Prize), 0, 0, 0, 0⟩ : Sch)) fun v_88 => letO ((lookM m_72 x_83.c).isSome) fun ok_90 => if (ok_90) = true then (g_law42_PrizesConserve_j13 schemes_2 i_71 m_72 x_83 tables_1 all_70 m_73 true) else gn schemes_2 i_71 fun x_115 => g_law42_PrizesConserve_j13 schemes_2 i_71 m_72 x_83 tables_1 all_70 m_73 (x_115.c != x_83.c)) else up (g_law42_PrizesConserve_j2 schemes_2 tables_1 all_70 m_72 m_73)
noncomputable def g_law42_PrizesConserve_j1 (tables_1 : List Tab) (schemes_2 : List Sch) (v_6 : Bool) : Option (Bool) :=
  if (v_6) = true then (some true) else loopO (g_law42_PrizesConserve_l11 tables_1 schemes_2) (0, 0, ([] : List (Int × Sch)), ([] : List Int))
noncomputable def g_law42_PrizesConserve (tables_1 : List Tab) (schemes_2 : List Sch) : Option (Bool) :=
  bd (g_law42_sane) fun r_3 => if (!(r_3)) = true then (some false) else bd (g_ref42_Few tables_1 schemes_2) fun r_119 => if (!(r_119)) = true then (g_law42_PrizesConserve_j1 tables_1 schemes_2 true) else g_law42_PrizesConserve_j1 tables_1 schemes_2 (((tables_1.length : Nat) : Int) != ((schemes_2.length : Nat) : Int))
end Go.Proofs.Ytoiiblkncbnlaaa

/-
  How the arguments of the laws read.
-/
namespace Go.Proofs.Ytoiiblkncbnlaaa
open Go.DL Go.ChangeShapes Go.WideShapes Go.ChangeAt Go.RowKit
set_option maxRecDepth 100000
set_option linter.unusedVariables false
set_option linter.unusedSimpArgs false
theorem Try.own : ownKnob Try.prog.godebug = none := by kernel_rfl
theorem Try.laidOut : laidOutB Try.prog = true := by kernel_rfl
theorem Dec.string {P : Program} {t : TypeId} (ht : P.underlying t = some .string) : Dec P t (fun b : List UInt8 => [.str b]) (fun _ => True) := by
  intro H enc w fuel cs d ps hd
  obtain ⟨b, rfl, _⟩ := DataW.trod_string ht hd
  exact ⟨b.data.toList, rfl, one_get (.str _), fun _ => trivial⟩
theorem und3 : Try.prog.underlying 3 = some (.int .i64) := by kernel_rfl
theorem d_3 : Dec Try.prog 3 (fun n : Int => [.int .i64 n]) (fun n => (Lit.int .i64 n).wf = true) := Dec.int und3
theorem und9 : Try.prog.underlying 9 = some .string := by kernel_rfl
theorem d_9 : Dec Try.prog 9 (fun b : List UInt8 => [.str b]) (fun _ => True) := Dec.string und9
theorem d_36 : Dec Try.prog 36 (fun x : Row => [(I x.c), (I x.pl), (I x.wo), (I x.dr), (I x.lo), (I x.fo), (I x.ag), (I x.af), (I x.aw), (I x.ca), (I x.po)]) (fun x => ((Lit.int .i64 x.c).wf = true) ∧ ((Lit.int .i64 x.pl).wf = true) ∧ ((Lit.int .i64 x.wo).wf = true) ∧ ((Lit.int .i64 x.dr).wf = true) ∧ ((Lit.int .i64 x.lo).wf = true) ∧ ((Lit.int .i64 x.fo).wf = true) ∧ ((Lit.int .i64 x.ag).wf = true) ∧ ((Lit.int .i64 x.af).wf = true) ∧ ((Lit.int .i64 x.aw).wf = true) ∧ ((Lit.int .i64 x.ca).wf = true) ∧ ((Lit.int .i64 x.po).wf = true) ∧ True) :=
  Dec.map (Dec.struct 11 (by kernel_rfl) (by kernel_rfl) (DecFs.cons 1 (by kernel_rfl) d_3 (fun _ => rfl) (DecFs.cons 1 (by kernel_rfl) d_3 (fun _ => rfl) (DecFs.cons 1 (by kernel_rfl) d_3 (fun _ => rfl) (DecFs.cons 1 (by kernel_rfl) d_3 (fun _ => rfl) (DecFs.cons 1 (by kernel_rfl) d_3 (fun _ => rfl) (DecFs.cons 1 (by kernel_rfl) d_3 (fun _ => rfl) (DecFs.cons 1 (by kernel_rfl) d_3 (fun _ => rfl) (DecFs.cons 1 (by kernel_rfl) d_3 (fun _ => rfl) (DecFs.cons 1 (by kernel_rfl) d_3 (fun _ => rfl) (DecFs.cons 1 (by kernel_rfl) d_3 (fun _ => rfl) (DecFs.cons 1 (by kernel_rfl) d_3 (fun _ => rfl) (DecFs.nil _)))))))))))) (fun _ => rfl))
    (fun q => ⟨q.1, q.2.1, q.2.2.1, q.2.2.2.1, q.2.2.2.2.1, q.2.2.2.2.2.1, q.2.2.2.2.2.2.1, q.2.2.2.2.2.2.2.1, q.2.2.2.2.2.2.2.2.1, q.2.2.2.2.2.2.2.2.2.1, q.2.2.2.2.2.2.2.2.2.2.1⟩) _ _ (fun _ => rfl) (fun _ h => h)
theorem d_38 : Dec Try.prog 38 (fun x : Place => [(I x.k), (I x.b), (.str x.z), (I x.r.c), (I x.r.pl), (I x.r.wo), (I x.r.dr), (I x.r.lo), (I x.r.fo), (I x.r.ag), (I x.r.af), (I x.r.aw), (I x.r.ca), (I x.r.po)]) (fun x => ((Lit.int .i64 x.k).wf = true) ∧ ((Lit.int .i64 x.b).wf = true) ∧ (True) ∧ (((Lit.int .i64 x.r.c).wf = true) ∧ ((Lit.int .i64 x.r.pl).wf = true) ∧ ((Lit.int .i64 x.r.wo).wf = true) ∧ ((Lit.int .i64 x.r.dr).wf = true) ∧ ((Lit.int .i64 x.r.lo).wf = true) ∧ ((Lit.int .i64 x.r.fo).wf = true) ∧ ((Lit.int .i64 x.r.ag).wf = true) ∧ ((Lit.int .i64 x.r.af).wf = true) ∧ ((Lit.int .i64 x.r.aw).wf = true) ∧ ((Lit.int .i64 x.r.ca).wf = true) ∧ ((Lit.int .i64 x.r.po).wf = true) ∧ True) ∧ True) :=
  Dec.map (Dec.struct 14 (by kernel_rfl) (by kernel_rfl) (DecFs.cons 1 (by kernel_rfl) d_3 (fun _ => rfl) (DecFs.cons 1 (by kernel_rfl) d_3 (fun _ => rfl) (DecFs.cons 1 (by kernel_rfl) d_9 (fun _ => rfl) (DecFs.cons 11 (by kernel_rfl) d_36 (fun _ => rfl) (DecFs.nil _))))) (fun _ => rfl))
    (fun q => ⟨q.1, q.2.1, q.2.2.1, q.2.2.2.1⟩) _ _ (fun _ => rfl) (fun _ h => h)
theorem und32 : Try.prog.underlying 32 = some (.slice 38) := by kernel_rfl
theorem d_32 : Dec Try.prog 32 (fun l : List Place => [.sl 14 (l.map encPlace)]) (fun l => ∀ a0 ∈ l, ((Lit.int .i64 a0.k).wf = true) ∧ ((Lit.int .i64 a0.b).wf = true) ∧ (True) ∧ (((Lit.int .i64 a0.r.c).wf = true) ∧ ((Lit.int .i64 a0.r.pl).wf = true) ∧ ((Lit.int .i64 a0.r.wo).wf = true) ∧ ((Lit.int .i64 a0.r.dr).wf = true) ∧ ((Lit.int .i64 a0.r.lo).wf = true) ∧ ((Lit.int .i64 a0.r.fo).wf = true) ∧ ((Lit.int .i64 a0.r.ag).wf = true) ∧ ((Lit.int .i64 a0.r.af).wf = true) ∧ ((Lit.int .i64 a0.r.aw).wf = true) ∧ ((Lit.int .i64 a0.r.ca).wf = true) ∧ ((Lit.int .i64 a0.r.po).wf = true) ∧ True) ∧ True) :=
  Dec.map (Dec.slice und32 14 _ (by kernel_rfl) rfl (by decide) d_38 encPlace (fun _ => rfl) (fun _ => rfl)) id _ _ (fun _ => rfl) (fun _ h => h.2)
theorem d_34 : Dec Try.prog 34 (fun x : Tab => [(I x.s), (I x.c), (.sl 14 (x.l.map encPlace))]) (fun x => ((Lit.int .i64 x.s).wf = true) ∧ ((Lit.int .i64 x.c).wf = true) ∧ (∀ a0 ∈ x.l, ((Lit.int .i64 a0.k).wf = true) ∧ ((Lit.int .i64 a0.b).wf = true) ∧ (True) ∧ (((Lit.int .i64 a0.r.c).wf = true) ∧ ((Lit.int .i64 a0.r.pl).wf = true) ∧ ((Lit.int .i64 a0.r.wo).wf = true) ∧ ((Lit.int .i64 a0.r.dr).wf = true) ∧ ((Lit.int .i64 a0.r.lo).wf = true) ∧ ((Lit.int .i64 a0.r.fo).wf = true) ∧ ((Lit.int .i64 a0.r.ag).wf = true) ∧ ((Lit.int .i64 a0.r.af).wf = true) ∧ ((Lit.int .i64 a0.r.aw).wf = true) ∧ ((Lit.int .i64 a0.r.ca).wf = true) ∧ ((Lit.int .i64 a0.r.po).wf = true) ∧ True) ∧ True) ∧ True) :=
  Dec.map (Dec.struct 3 (by kernel_rfl) (by kernel_rfl) (DecFs.cons 1 (by kernel_rfl) d_3 (fun _ => rfl) (DecFs.cons 1 (by kernel_rfl) d_3 (fun _ => rfl) (DecFs.cons 1 (by kernel_rfl) d_32 (fun _ => rfl) (DecFs.nil _)))) (fun _ => rfl))
    (fun q => ⟨q.1, q.2.1, q.2.2.1⟩) _ _ (fun _ => rfl) (fun _ h => h)
theorem und22 : Try.prog.underlying 22 = some (.slice 34) := by kernel_rfl
theorem d_22 : Dec Try.prog 22 (fun l : List Tab => [.sl 3 (l.map encTab)]) (fun l => ∀ a0 ∈ l, ((Lit.int .i64 a0.s).wf = true) ∧ ((Lit.int .i64 a0.c).wf = true) ∧ (∀ a1 ∈ a0.l, ((Lit.int .i64 a1.k).wf = true) ∧ ((Lit.int .i64 a1.b).wf = true) ∧ (True) ∧ (((Lit.int .i64 a1.r.c).wf = true) ∧ ((Lit.int .i64 a1.r.pl).wf = true) ∧ ((Lit.int .i64 a1.r.wo).wf = true) ∧ ((Lit.int .i64 a1.r.dr).wf = true) ∧ ((Lit.int .i64 a1.r.lo).wf = true) ∧ ((Lit.int .i64 a1.r.fo).wf = true) ∧ ((Lit.int .i64 a1.r.ag).wf = true) ∧ ((Lit.int .i64 a1.r.af).wf = true) ∧ ((Lit.int .i64 a1.r.aw).wf = true) ∧ ((Lit.int .i64 a1.r.ca).wf = true) ∧ ((Lit.int .i64 a1.r.po).wf = true) ∧ True) ∧ True) ∧ True) :=
  Dec.map (Dec.slice und22 3 _ (by kernel_rfl) rfl (by decide) d_34 encTab (fun _ => rfl) (fun _ => rfl)) id _ _ (fun _ => rfl) (fun _ h => h.2)
theorem d_45 : Dec Try.prog 45 (fun x : Prize => [(I x.f), (I x.t), (I x.a)]) (fun x => ((Lit.int .i64 x.f).wf = true) ∧ ((Lit.int .i64 x.t).wf = true) ∧ ((Lit.int .i64 x.a).wf = true) ∧ True) :=
  Dec.map (Dec.struct 3 (by kernel_rfl) (by kernel_rfl) (DecFs.cons 1 (by kernel_rfl) d_3 (fun _ => rfl) (DecFs.cons 1 (by kernel_rfl) d_3 (fun _ => rfl) (DecFs.cons 1 (by kernel_rfl) d_3 (fun _ => rfl) (DecFs.nil _)))) (fun _ => rfl))
    (fun q => ⟨q.1, q.2.1, q.2.2.1⟩) _ _ (fun _ => rfl) (fun _ h => h)
theorem und28 : Try.prog.underlying 28 = some (.slice 45) := by kernel_rfl
theorem d_28 : Dec Try.prog 28 (fun l : List Prize => [.sl 3 (l.map encPrize)]) (fun l => ∀ a0 ∈ l, ((Lit.int .i64 a0.f).wf = true) ∧ ((Lit.int .i64 a0.t).wf = true) ∧ ((Lit.int .i64 a0.a).wf = true) ∧ True) :=
  Dec.map (Dec.slice und28 3 _ (by kernel_rfl) rfl (by decide) d_45 encPrize (fun _ => rfl) (fun _ => rfl)) id _ _ (fun _ => rfl) (fun _ h => h.2)
theorem d_30 : Dec Try.prog 30 (fun x : Sch => [(I x.c), (.sl 3 (x.p.map encPrize)), (I x.u), (I x.d), (I x.ab), (I x.be)]) (fun x => ((Lit.int .i64 x.c).wf = true) ∧ (∀ a0 ∈ x.p, ((Lit.int .i64 a0.f).wf = true) ∧ ((Lit.int .i64 a0.t).wf = true) ∧ ((Lit.int .i64 a0.a).wf = true) ∧ True) ∧ ((Lit.int .i64 x.u).wf = true) ∧ ((Lit.int .i64 x.d).wf = true) ∧ ((Lit.int .i64 x.ab).wf = true) ∧ ((Lit.int .i64 x.be).wf = true) ∧ True) :=
  Dec.map (Dec.struct 6 (by kernel_rfl) (by kernel_rfl) (DecFs.cons 1 (by kernel_rfl) d_3 (fun _ => rfl) (DecFs.cons 1 (by kernel_rfl) d_28 (fun _ => rfl) (DecFs.cons 1 (by kernel_rfl) d_3 (fun _ => rfl) (DecFs.cons 1 (by kernel_rfl) d_3 (fun _ => rfl) (DecFs.cons 1 (by kernel_rfl) d_3 (fun _ => rfl) (DecFs.cons 1 (by kernel_rfl) d_3 (fun _ => rfl) (DecFs.nil _))))))) (fun _ => rfl))
    (fun q => ⟨q.1, q.2.1, q.2.2.1, q.2.2.2.1, q.2.2.2.2.1, q.2.2.2.2.2.1⟩) _ _ (fun _ => rfl) (fun _ h => h)
theorem und23 : Try.prog.underlying 23 = some (.slice 30) := by kernel_rfl
theorem d_23 : Dec Try.prog 23 (fun l : List Sch => [.sl 6 (l.map encSch)]) (fun l => ∀ a0 ∈ l, ((Lit.int .i64 a0.c).wf = true) ∧ (∀ a1 ∈ a0.p, ((Lit.int .i64 a1.f).wf = true) ∧ ((Lit.int .i64 a1.t).wf = true) ∧ ((Lit.int .i64 a1.a).wf = true) ∧ True) ∧ ((Lit.int .i64 a0.u).wf = true) ∧ ((Lit.int .i64 a0.d).wf = true) ∧ ((Lit.int .i64 a0.ab).wf = true) ∧ ((Lit.int .i64 a0.be).wf = true) ∧ True) :=
  Dec.map (Dec.slice und23 6 _ (by kernel_rfl) rfl (by decide) d_30 encSch (fun _ => rfl) (fun _ => rfl)) id _ _ (fun _ => rfl) (fun _ h => h.2)
theorem und4 : Try.prog.underlying 4 = some .bool := by kernel_rfl
end Go.Proofs.Ytoiiblkncbnlaaa
