/-
  Texts that belong together, one behind the other; what each of them proves, and under which conditions, its own heading says.
-/
import Derived.Test.YthpjlkpkhlkhbaaRows
import Derived.Test.YthpjlkpkhlkhbaaKd
/-
  The data-level framework, second series, part d: a box takes another number. Generic in the program; no condition.
-/
set_option linter.unusedVariables false
set_option linter.unusedSimpArgs false
namespace Go.DL
open Go.RowKit

def renN (i j k : Nat) : Nat := match k == i with | true => j | false => k
def C.ren (i j : Nat) : C → C
  | .own k => .own (renN i j k)
  | .ref k o => .ref (renN i j k) o
  | .rref k x o => .rref (renN i j k) x o
  | .fn f caps => match caps.any (fun c => match c with | .inl k => k == i | .inr _ => false) with | true => .junk | false => .fn f caps
  | c => c
def LV.ren (i j : Nat) : LV → LV
  | .one c => .one (c.ren i j)
  | .agg cs => .agg (cs.map (C.ren i j))
  | .tup vs => .tup (vs.map fun p => (p.1, p.2.map (C.ren i j)))
def Box.ren (i j : Nat) : Box → Box
  | .var cs => .var (cs.map (C.ren i j))
  | b => b
/-- Box i takes the number j, which nothing else has. -/
def DS.ren (i j : Nat) (s : DS) : DS := ⟨(s.drop j).sl.map (LV.ren i j), (s.drop j).bx.map fun p => (renN i j p.1, p.2.ren i j)⟩

section
variable {P : Program} {w : World} {A : Nat → Prop} {M : BMap} {i j : Nat}

theorem renN_M (h : M.blk j = M.blk i ∧ M.rv j = M.rv i ∧ M.sz j = M.sz i) (k : Nat) : M.blk (renN i j k) = M.blk k ∧ M.rv (renN i j k) = M.rv k ∧ M.sz (renN i j k) = M.sz k := by
  unfold renN
  split
  · rename_i hk
    have : k = i := by simpa using hk
    subst this; exact h
  · exact ⟨rfl, rfl, rfl⟩
theorem C.ren_rel (h : M.blk j = M.blk i ∧ M.rv j = M.rv i ∧ M.sz j = M.sz i) {c : C} {v : Value} (hc : C.rel w A M c v) : C.rel w A M (c.ren i j) v := by
  cases c with
  | own k => simp only [C.ren, C.rel, (renN_M h k).2.1]; exact hc
  | ref k o => simp only [C.ren, C.rel, (renN_M h k).1]; exact hc
  | rref k x o => simp only [C.ren, C.rel, (renN_M h k).1, (renN_M h k).2.2]; exact hc
  | fn f caps => simp only [C.ren]; split <;> first | trivial | exact hc
  | _ => exact hc
theorem cells_ren (h : M.blk j = M.blk i ∧ M.rv j = M.rv i ∧ M.sz j = M.sz i) {cs : List C} {arr : Array Value} (hc : cellsRel w A M cs arr) : cellsRel w A M (cs.map (C.ren i j)) arr := by
  refine ⟨by simp [hc.1], fun k c hk => ?_⟩
  simp only [List.getElem?_map, Option.map_eq_some_iff] at hk
  obtain ⟨c', hc', rfl⟩ := hk
  obtain ⟨u, hu, hr⟩ := hc.2 k c' hc'
  exact ⟨u, hu, C.ren_rel h hr⟩
theorem LV.ren_rel (h : M.blk j = M.blk i ∧ M.rv j = M.rv i ∧ M.sz j = M.sz i) {l : LV} {v : Value} (hl : LV.rel w A M l v) : LV.rel w A M (l.ren i j) v := by
  cases l with
  | one c => exact C.ren_rel h hl
  | agg cs => exact let ⟨arr, h1, h2⟩ := hl; ⟨arr, h1, cells_ren h h2⟩
  | tup ps =>
    obtain ⟨arr, h1, h2, h3⟩ := hl
    refine ⟨arr, h1, by simp [h2], fun k p hk => ?_⟩
    simp only [List.getElem?_map, Option.map_eq_some_iff] at hk
    obtain ⟨q, hq, rfl⟩ := hk
    obtain ⟨u, hu, hr⟩ := h3 k q hq
    refine ⟨u, hu, ?_⟩
    obtain ⟨b, cs⟩ := q
    cases b with
    | true => exact let ⟨arr, h1, h2⟩ := hr; ⟨arr, h1, cells_ren h h2⟩
    | false =>
      match cs, hr with
      | [], _ => trivial
      | [c], hr => exact C.ren_rel h hr
      | _ :: _ :: _, _ => trivial
theorem boxBlk_ren (h : M.blk j = M.blk i ∧ M.rv j = M.rv i ∧ M.sz j = M.sz i) (k : Nat) (b : Box) : boxBlk M (renN i j k, b.ren i j) = boxBlk M (k, b) := by
  cases b <;> simp [boxBlk, Box.ren, renN_M h k]

theorem DS.le_ren {base : Nat} (s : DS) (i j : Nat) (hij : (i == j) = false) (hb : Nat.ble base j = true) : ∀ (E : Env) (M : BMap) (w : World) (a : Act), E.base = base → St E M w a s → ∃ M', St E M' w a (s.ren i j) := by
  intro E M w a hE h
  have hne : i ≠ j := by simpa using hij
  have hbase : E.base ≤ j := by rw [hE]; exact Nat.le_of_ble_eq_true hb
  have h1 : St E (M.upd j (M.blk i) (M.rv i) (M.sz i)) w a (s.drop j) := (h.toA.drop j (M.blk i) (M.rv i) (M.sz i)).toSt fun b hb => Av_drop hb
  refine ⟨M.upd j (M.blk i) (M.rv i) (M.sz i), ?_⟩
  have hM : (M.upd j (M.blk i) (M.rv i) (M.sz i)).blk j = (M.upd j (M.blk i) (M.rv i) (M.sz i)).blk i ∧ (M.upd j (M.blk i) (M.rv i) (M.sz i)).rv j = (M.upd j (M.blk i) (M.rv i) (M.sz i)).rv i ∧ (M.upd j (M.blk i) (M.rv i) (M.sz i)).sz j = (M.upd j (M.blk i) (M.rv i) (M.sz i)).sz i := by
    simp [BMap.upd, hne]
  generalize M.upd j (M.blk i) (M.rv i) (M.sz i) = M' at h1 hM
  have hbx : (s.ren i j).bx.map (boxBlk M') = (s.drop j).bx.map (boxBlk M') := by
    simp only [DS.ren, List.map_map]
    exact List.map_congr_left fun p _ => boxBlk_ren hM p.1 p.2
  have hAv : ∀ b, Av E.A0 M' (s.ren i j).bx b ↔ Av E.A0 M' (s.drop j).bx b := by
    intro b
    have : ∀ bx : List (Nat × Box), (∃ p ∈ bx, boxBlk M' p = some b) ↔ some b ∈ bx.map (boxBlk M') := by simp
    unfold Av
    rw [this, this, hbx]
  have hk : Keeps w (Av E.A0 M' (s.drop j).bx) w (Av E.A0 M' (s.ren i j).bx) := Keeps.sub fun b hb => (hAv b).1 hb
  have hmem : ∀ p ∈ (s.ren i j).bx, ∃ q ∈ (s.drop j).bx, p = (renN i j q.1, q.2.ren i j) := fun p hp => by
    obtain ⟨q, hq, rfl⟩ := List.mem_map.1 hp; exact ⟨q, hq, rfl⟩
  refine ⟨h1.defers, by rw [h1.size]; simp [DS.ren], fun t l hl => ?_, ?_⟩
  · simp only [DS.ren, List.getElem?_map, Option.map_eq_some_iff] at hl
    obtain ⟨l', hl', rfl⟩ := hl
    exact LV.ren_rel hM ((h1.slots t l' hl').mono hk)
  · refine {
      ok := fun id b hb => ?_
      ids := ?_
      blks := ?_
      new := fun p hp k hpk => ?_
      foreign := h1.boxes.foreign
      frame := h1.boxes.frame
      old := fun p hp hlt => ?_ }
    · obtain ⟨q, hq, he⟩ := hmem _ hb
      cases he
      have hok := (h1.boxes.ok q.1 q.2 hq).mono hk (fun _ _ => rfl)
      have hr := renN_M hM q.1
      revert hok
      cases q.2 with
      | var cs =>
        rintro ⟨arr, T, g1, g2⟩
        exact ⟨arr, T, by rw [hr.1]; exact g1, cells_ren hM g2⟩
      | row e sz es =>
        rintro ⟨xs, g1, g2, g3, g4, g5⟩
        exact ⟨xs, by rw [hr.2.1]; exact g1, g2, by rw [hr.2.2]; exact g3, g4, by rw [hr.1, hr.2.1]; exact g5⟩
      | map Q k e m =>
        rintro ⟨g1, g2⟩
        exact ⟨by rw [hr.1, hr.2.1]; exact g1, by rw [hr.1]; exact g2⟩
    · have : (s.ren i j).bx.map (·.1) = ((s.drop j).bx.map (·.1)).map (renN i j) := by simp [DS.ren, List.map_map, Function.comp_def]
      rw [this]
      have hfree : ∀ x ∈ (s.drop j).bx.map (·.1), x ≠ j := fun x hx => by
        obtain ⟨p, hp, rfl⟩ := List.mem_map.1 hx
        exact drop_free p hp
      have hnd := h1.boxes.ids
      generalize (s.drop j).bx.map (·.1) = ids at hnd hfree
      refine List.pairwise_map.2 (List.Pairwise.imp_of_mem ?_ hnd)
      intro x y hx hy hxy e
      have h2 := hfree x hx
      have h3 := hfree y hy
      have hr : ∀ z, z ≠ i → renN i j z = z := fun z hz => by
        unfold renN
        split
        · rename_i hk; exact absurd (by simpa using hk) hz
        · rfl
      have hi : renN i j i = j := by simp [renN]
      by_cases a1 : x = i
      · subst a1
        rw [hi, hr y (fun e => hxy e.symm)] at e
        exact h3 e.symm
      · rw [hr x a1] at e
        by_cases a2 : y = i
        · subst a2; rw [hi] at e; exact h2 e
        · rw [hr y a2] at e; exact hxy e
    · rw [filterMap_of_map (boxBlk M'), hbx, ← filterMap_of_map]; exact h1.boxes.blks
    · obtain ⟨q, hq, rfl⟩ := hmem p hp
      rw [boxBlk_ren hM] at hpk
      exact h1.boxes.new q hq k hpk
    · obtain ⟨q, hq, rfl⟩ := hmem p hp
      have hr := renN_M hM q.1
      simp only at hlt ⊢
      by_cases he : q.1 = i
      · have : renN i j q.1 = j := by simp [renN, he]
        omega
      · have e : renN i j q.1 = q.1 := by
          unfold renN
          split
          · rename_i hk; exact absurd (by simpa using hk) he
          · rfl
        rw [e] at hlt ⊢
        exact h1.boxes.old q hq hlt

theorem T_ren {base : Nat} {c : Code} {Q : DX → DS → Prop} {s : DS} (i j : Nat) (s' : DS) (hij : (i == j) = false) (hb : Nat.ble base j = true) (h : s.ren i j = s') (hq : T P base c Q s') : T P base c Q s := by
  subst h
  intro E M w a hE hs
  obtain ⟨M', h'⟩ := DS.le_ren s i j hij hb E M w a hE hs
  exact hq E M' w a hE h'
end
end Go.DL

/-
  Walks at the data level, printed by gen.py: what each Go function returns, for data that reads as said. Conditions: those of each theorem.
-/
namespace Go.Proofs.Ythpjlkpkhlkhbaa
open Go.DL
set_option maxRecDepth 100000
set_option linter.unusedVariables false
set_option linter.unusedSimpArgs false
theorem ret_splitR (a : Int) (ws : List Int) (ha : 0 ≤ a) (ha2 : a ≤ 1125899906842624) (hw : ∀ x ∈ ws, 0 ≤ x ∧ x ≤ 1000) (hl : ws.length ≤ 256) (hs : 0 < sumL 0 ws) : Ret Try.prog 27 [(I a), (.sl 1 (ws.map encI))] (.tup [(.sl 1 ((splitW a (sumL 0 ws) ws).map encI)), (I 0)]) := by
  refine Ret.of_T Try.func27 (by kernel_rfl) rfl ?_
  refine T_turn [] [0, 1] [] (mk 146 [(0, (dt (I a))), (1, (dt (.sl 1 (ws.map encI))))] []) (by kernel_rfl) ?_
  refine T_reg [] [0, 1] [] (mk 146 [(0, (dt (I a))), (1, (dt (.sl 1 (ws.map encI))))] []) (True ∧ True ∧ True ∧ True ∧ True) (by kernel_rfl) ⟨trivial, trivial, trivial, trivial, trivial⟩ ?_
  refine T_seq ?_
  refine T_reg [{}, { d := some (I (chkM a)) }] [0, 1, 18] [] (mk 146 [(0, (dt (I a))), (1, (dt (.sl 1 (ws.map encI)))), (18, (dt (B ((chkM a) != 0))))] []) (True ∧ True ∧ True ∧ (Ret Try.prog 40 [(I a)] (I (chkM a))) ∧ True ∧ True ∧ True) (by kernel_rfl) ⟨trivial, trivial, trivial, (ret_chkMR _), trivial, trivial, trivial⟩ ?_
  refine T_cond ((chkM a) != 0) (by kernel_rfl) (fun h1 => ?_) (fun h1 => ?_)
  · skip
    have g2 : (chkM a) ≠ 0 := bne_iff_ne.1 (h1)
    exact (by exfalso; have := chkM_cases a; have h0 := sumL_nil ws; first | omega | (have := sumL_end iv (by omega); omega))
  · skip
    have g3 : (chkM a) = 0 := bne_f (h1)
    refine T_skip ?_
    refine T_reg [] [0, 1, 6] [] (mk 146 [(0, (dt (I a))), (1, (dt (.sl 1 (ws.map encI)))), (6, (dt (I 0)))] []) (True ∧ True ∧ True) (by kernel_rfl) ⟨trivial, trivial, trivial⟩ ?_
    refine T_seq ?_
    refine T_reg [] [0, 1, 6, 7] [] (mk 146 [(0, (dt (I a))), (1, (dt (.sl 1 (ws.map encI)))), (6, (dt (I 0))), (7, (dt (I 0)))] []) (True ∧ True ∧ True) (by kernel_rfl) ⟨trivial, trivial, trivial⟩ ?_
    refine T_block ?_
    refine T_turn [] [0, 1, 6, 7] [] ((fun ((k, n) : Nat × Int) => (mk 146 [(0, (dt (I a))), (1, (dt (.sl 1 (ws.map encI)))), (6, (dt (I n))), (7, (dt (I ((k : Nat) : Int))))] [])) (0, 0)) (by kernel_rfl) (T_loop (α := Nat × Int) (fun ((k, n) : Nat × Int) => (mk 146 [(0, (dt (I a))), (1, (dt (.sl 1 (ws.map encI)))), (6, (dt (I n))), (7, (dt (I ((k : Nat) : Int))))] [])) (fun ((k, n) : Nat × Int) => (k ≤ (ws).length) ∧ (sumL n (ws.drop k) = sumL 0 ws) ∧ (0 ≤ n ∧ n ≤ 1000 * (k : Int)) ∧ True) (fun ((k, n) : Nat × Int) => (ws).length - k) (0, 0) ⟨Nat.zero_le _, rfl, ⟨Int.le_refl _, by simp⟩, trivial⟩ ?_)
    rintro ⟨k, n⟩ ⟨ik, iv, ib, _⟩
    refine T_seq ?_
    refine T_reg [{}, {}, { d := some (I ((ws.length : Nat) : Int)) }] [0, 1, 6, 7, 22] [] (mk 146 [(0, (dt (I a))), (1, (dt (.sl 1 (ws.map encI)))), (6, (dt (I n))), (7, (dt (I ((k : Nat) : Int)))), (22, (dt (B (decide (((k : Nat) : Int) < ((ws.length : Nat) : Int))))))] []) (True ∧ True ∧ True ∧ True ∧ True ∧ (True ∧ D.int .i64 ((ws.map encI).length : Int) = (I ((ws.length : Nat) : Int))) ∧ True ∧ True ∧ True) (by kernel_rfl) ⟨trivial, trivial, trivial, trivial, trivial, ⟨trivial, by rw [List.length_map]⟩, trivial, trivial, trivial⟩ ?_
    refine T_cond (decide (((k : Nat) : Int) < ((ws.length : Nat) : Int))) (by kernel_rfl) (fun h4 => ?_) (fun h4 => ?_)
    · skip
      have g5 : ((k : Nat) : Int) < ((ws.length : Nat) : Int) := of_decide_eq_true (h4)
      refine T_skip ?_
      refine T_seq ?_
      refine T_block ?_
      refine T_seq ?_
      have lt6 : k < (ws).length := by first | omega | (simp only [List.length_set, List.length_map, List.length_append, List.length_cons, List.length_nil] at *; omega)
      obtain ⟨x7, hx8⟩ : ∃ x, (ws)[k]? = some x := ⟨_, List.getElem?_eq_getElem lt6⟩
      have hwx := hw _ (List.mem_of_getElem? hx8)
      have hml := mul_low ha ha2 hwx
      have hdl := div_low (s := n) hml.1
      rcases Bool.eq_false_or_eq_true (decide (x7 < 0)) with h9 | h9
      · skip
        have g10 : x7 < 0 := of_decide_eq_true (h9)
        exact (by exfalso; have := hw _ (List.mem_of_getElem? hx8); omega)
      · skip
        have g11 : ¬ (x7 < 0) := of_decide_eq_false (h9)
        refine T_reg [{}, {}, { d := some (I x7) }, {}, {}, {}, {}, {}, { d := some (I x7) }, {}, {}, { d := some (B false) }] [0, 1, 6, 7, 36] [] (mk 146 [(0, (dt (I a))), (1, (dt (.sl 1 (ws.map encI)))), (6, (dt (I n))), (7, (dt (I ((k : Nat) : Int)))), (36, (dt (B (decide (x7 > 1000)))))] []) (True ∧ True ∧ True ∧ True ∧ True ∧ (0 ≤ ((k : Nat) : Int) ∧ (ws.map encI)[k]? = some (I x7)) ∧ True ∧ True ∧ True ∧ True ∧ True ∧ True ∧ (((decide (x7 < 0)) == false) = true) ∧ True ∧ (((decide (x7 < 0)) == false) = true) ∧ True ∧ (((decide (x7 < 0)) == false) = true) ∧ (0 ≤ ((k : Nat) : Int) ∧ (ws.map encI)[k]? = some (I x7)) ∧ (((decide (x7 < 0)) == false) = true) ∧ True ∧ (((decide (x7 < 0)) == false) = true) ∧ True ∧ True ∧ ((decide (x7 < 0)) = false) ∧ True) (by kernel_rfl) ⟨trivial, trivial, trivial, trivial, trivial, ⟨by omega, by rw [List.getElem?_map, hx8]; rfl⟩, trivial, trivial, trivial, trivial, trivial, trivial, (by rw [show (decide (x7 < 0)) = false from h9]; rfl), trivial, (by rw [show (decide (x7 < 0)) = false from h9]; rfl), trivial, (by rw [show (decide (x7 < 0)) = false from h9]; rfl), ⟨by omega, by rw [List.getElem?_map, hx8]; rfl⟩, (by rw [show (decide (x7 < 0)) = false from h9]; rfl), trivial, (by rw [show (decide (x7 < 0)) = false from h9]; rfl), trivial, trivial, h9, trivial⟩ ?_
        refine T_cond (decide (x7 > 1000)) (by kernel_rfl) (fun h12 => ?_) (fun h12 => ?_)
        · skip
          have g13 : x7 > 1000 := of_decide_eq_true (h12)
          exact (by exfalso; have := hw _ (List.mem_of_getElem? hx8); omega)
        · skip
          have g14 : ¬ (x7 > 1000) := of_decide_eq_false (h12)
          refine T_skip ?_
          refine T_regE [{}, {}, {}, { d := some (I x7) }, {}, { d := some (I (n + x7)) }] (mk 146 [(0, (dt (I a))), (1, (dt (.sl 1 (ws.map encI)))), (6, (dt (I (n + x7)))), (7, (dt (I ((k : Nat) : Int)))), (36, (dt (B (decide (x7 > 1000))))), (37, (dt (I n))), (38, (dt (.sl 1 (ws.map encI)))), (39, (dt (I ((k : Nat) : Int)))), (40, (dt (.ptr [(I x7)]))), (41, (dt (I x7))), (42, (dt (I (n + x7))))] []) (True ∧ True ∧ True ∧ True ∧ True ∧ True ∧ True ∧ (0 ≤ ((k : Nat) : Int) ∧ (ws.map encI)[k]? = some (I x7)) ∧ True ∧ True ∧ True ∧ (IntKind.i64.wrap (n + x7) = (n + x7)) ∧ True ∧ True ∧ True) (by kernel_rfl) ⟨trivial, trivial, trivial, trivial, trivial, trivial, trivial, ⟨by omega, by rw [List.getElem?_map, hx8]; rfl⟩, trivial, trivial, trivial, (i64_wrap (by omega) (by omega)), trivial, trivial, trivial⟩ ?_
          refine T_regE [{}, { d := some (I ((k + 1 : Nat) : Int)) }] (mk 146 [(0, (dt (I a))), (1, (dt (.sl 1 (ws.map encI)))), (6, (dt (I (n + x7)))), (7, (dt (I ((k + 1 : Nat) : Int)))), (23, (dt (I ((k : Nat) : Int)))), (24, (dt (I ((k + 1 : Nat) : Int)))), (36, (dt (B (decide (x7 > 1000))))), (37, (dt (I n))), (38, (dt (.sl 1 (ws.map encI)))), (39, (dt (I ((k : Nat) : Int)))), (40, (dt (.ptr [(I x7)]))), (41, (dt (I x7))), (42, (dt (I (n + x7))))] []) (True ∧ True ∧ True ∧ (IntKind.i64.wrap (((k : Nat) : Int) + 1) = ((k + 1 : Nat) : Int)) ∧ True ∧ True ∧ True) (by kernel_rfl) ⟨trivial, trivial, trivial, (by rw [i64_wrap (by omega) (by omega)]; omega), trivial, trivial, trivial⟩ ?_
          refine Exists.intro (k + 1, (n + x7)) ⟨⟨by omega, by rw [← iv, drop_cons hx8]; rfl, by have := hw _ (List.mem_of_getElem? hx8); omega, trivial⟩, by first | omega | (dsimp only; omega), le_turn [] [0, 1, 6, 7] [] (by kernel_rfl)⟩
    · skip
      have g15 : ¬ (((k : Nat) : Int) < ((ws.length : Nat) : Int)) := of_decide_eq_false (h4)
      refine T_exit ?_
      refine T_seq ?_
      rcases Bool.eq_false_or_eq_true (decide (((ws.length : Nat) : Int) < 1)) with h16 | h16
      · skip
        have g17 : ((ws.length : Nat) : Int) < 1 := of_decide_eq_true (h16)
        exact (by exfalso; have := chkM_cases a; have h0 := sumL_nil ws; first | omega | (have := sumL_end iv (by omega); omega))
      · skip
        have g18 : ¬ (((ws.length : Nat) : Int) < 1) := of_decide_eq_false (h16)
        rcases Bool.eq_false_or_eq_true (decide (((ws.length : Nat) : Int) > 256)) with h19 | h19
        · skip
          have g20 : ((ws.length : Nat) : Int) > 256 := of_decide_eq_true (h19)
          exact (by exfalso; have := chkM_cases a; have h0 := sumL_nil ws; first | omega | (have := sumL_end iv (by omega); omega))
        · skip
          have g21 : ¬ (((ws.length : Nat) : Int) > 256) := of_decide_eq_false (h19)
          refine T_reg [{}, { d := some (I ((ws.length : Nat) : Int)) }, {}, {}, {}, { d := some (I ((ws.length : Nat) : Int)) }, {}, { d := some (B false) }, {}, {}, {}, { d := some (B false) }] [0, 1, 6, 54] [] (mk 146 [(0, (dt (I a))), (1, (dt (.sl 1 (ws.map encI)))), (6, (dt (I n))), (54, (dt (B (n == 0))))] []) (True ∧ True ∧ True ∧ (True ∧ D.int .i64 ((ws.map encI).length : Int) = (I ((ws.length : Nat) : Int))) ∧ True ∧ True ∧ True ∧ True ∧ (((decide (((ws.length : Nat) : Int) < 1)) == false) = true) ∧ True ∧ (((decide (((ws.length : Nat) : Int) < 1)) == false) = true) ∧ (True ∧ D.int .i64 ((ws.map encI).length : Int) = (I ((ws.length : Nat) : Int))) ∧ (((decide (((ws.length : Nat) : Int) < 1)) == false) = true) ∧ True ∧ True ∧ ((decide (((ws.length : Nat) : Int) < 1)) = false) ∧ True ∧ True ∧ (((decide (((ws.length : Nat) : Int) > 256)) == false) = true) ∧ True ∧ (((decide (((ws.length : Nat) : Int) > 256)) == false) = true) ∧ True ∧ True ∧ ((decide (((ws.length : Nat) : Int) > 256)) = false) ∧ True) (by kernel_rfl) ⟨trivial, trivial, trivial, ⟨trivial, by rw [List.length_map]⟩, trivial, trivial, trivial, trivial, (by rw [show (decide (((ws.length : Nat) : Int) < 1)) = false from h16]; rfl), trivial, (by rw [show (decide (((ws.length : Nat) : Int) < 1)) = false from h16]; rfl), ⟨trivial, by rw [List.length_map]⟩, (by rw [show (decide (((ws.length : Nat) : Int) < 1)) = false from h16]; rfl), trivial, trivial, h16, trivial, trivial, (by rw [show (decide (((ws.length : Nat) : Int) > 256)) = false from h19]; rfl), trivial, (by rw [show (decide (((ws.length : Nat) : Int) > 256)) = false from h19]; rfl), trivial, trivial, h19, trivial⟩ ?_
          refine T_cond (n == 0) (by kernel_rfl) (fun h22 => ?_) (fun h22 => ?_)
          · skip
            have g23 : n = 0 := eq_of_beq (h22)
            exact (by exfalso; have := chkM_cases a; have h0 := sumL_nil ws; first | omega | (have := sumL_end iv (by omega); omega))
          · skip
            have g24 : n ≠ 0 := ne_of_beq_false (h22)
            refine T_skip ?_
            have hws : ∀ x ∈ ws, x ≤ n := fun x hx => by have := le_sumL (fun y hy => (hw y hy).1) hx; have := sumL_end iv (by omega); omega
            refine T_reg [{}, {}, { d := some (I (-a)) }] [0, 1, 6, 8] [] (mk 146 [(0, (dt (I a))), (1, (dt (.sl 1 (ws.map encI)))), (6, (dt (I n))), (8, (dt (I (if (-a) > a then (-a) else a))))] []) (True ∧ True ∧ True ∧ True ∧ True ∧ (IntKind.i64.wrap (0 - a) = (-a)) ∧ True ∧ True ∧ True ∧ True ∧ True) (by kernel_rfl) ⟨trivial, trivial, trivial, trivial, trivial, (by rw [i64_wrap (by omega) (by omega)]; omega), trivial, trivial, trivial, trivial, trivial⟩ ?_
            refine T_turn [] [0, 1, 6, 8] [] (mk 146 [(0, (dt (I a))), (1, (dt (.sl 1 (ws.map encI)))), (6, (dt (I n))), (8, (dt (I a)))] []) (by rw [show (if (-a) > a then (-a) else a) = a from if_neg (by omega)]; kernel_rfl) ?_
            refine T_reg [] [0, 1, 6, 8, 9] [] (mk 146 [(0, (dt (I a))), (1, (dt (.sl 1 (ws.map encI)))), (6, (dt (I n))), (8, (dt (I a))), (9, (.one (.own 59)))] [(59, (.row 3 1 (([] : List Int).map encI)))]) (True ∧ (dfill (fun i => some (i * 1, 1)) (List.replicate (0 * 1) .junk) [] = some ((flat (([] : List Int).map encI)).map .dat)) ∧ True ∧ True ∧ True) (by kernel_rfl) ⟨trivial, rfl, trivial, trivial, trivial⟩ ?_
            refine T_reg [] [0, 1, 6, 8, 9, 10] [] (mk 146 [(0, (dt (I a))), (1, (dt (.sl 1 (ws.map encI)))), (6, (dt (I n))), (8, (dt (I a))), (9, (.one (.own 59))), (10, (.one (.own 60)))] [(60, (.row 3 1 (([] : List Int).map encI))), (59, (.row 3 1 (([] : List Int).map encI)))]) (True ∧ (dfill (fun i => some (i * 1, 1)) (List.replicate (0 * 1) .junk) [] = some ((flat (([] : List Int).map encI)).map .dat)) ∧ True ∧ True ∧ True) (by kernel_rfl) ⟨trivial, rfl, trivial, trivial, trivial⟩ ?_
            refine T_reg [] [0, 1, 6, 8, 9, 10, 11] [] (mk 146 [(0, (dt (I a))), (1, (dt (.sl 1 (ws.map encI)))), (6, (dt (I n))), (8, (dt (I a))), (9, (.one (.own 59))), (10, (.one (.own 60))), (11, (dt (I a)))] [(60, (.row 3 1 (([] : List Int).map encI))), (59, (.row 3 1 (([] : List Int).map encI)))]) (True ∧ True ∧ True ∧ True ∧ True) (by kernel_rfl) ⟨trivial, trivial, trivial, trivial, trivial⟩ ?_
            refine T_seq ?_
            refine T_ren 59 78 (mk 146 [(0, (dt (I a))), (1, (dt (.sl 1 (ws.map encI)))), (6, (dt (I n))), (8, (dt (I a))), (9, (.one (.own 78))), (10, (.one (.own 60))), (11, (dt (I a)))] [(60, (.row 3 1 (([] : List Int).map encI))), (78, (.row 3 1 (([] : List Int).map encI)))]) (by decide) (by decide) (by kernel_rfl) ?_
            refine T_ren 60 89 (mk 146 [(0, (dt (I a))), (1, (dt (.sl 1 (ws.map encI)))), (6, (dt (I n))), (8, (dt (I a))), (9, (.one (.own 78))), (10, (.one (.own 89))), (11, (dt (I a)))] [(89, (.row 3 1 (([] : List Int).map encI))), (78, (.row 3 1 (([] : List Int).map encI)))]) (by decide) (by decide) (by kernel_rfl) ?_
            refine T_reg [] [0, 1, 6, 8, 9, 10, 11, 12] [] (mk 146 [(0, (dt (I a))), (1, (dt (.sl 1 (ws.map encI)))), (6, (dt (I n))), (8, (dt (I a))), (9, (.one (.own 78))), (10, (.one (.own 89))), (11, (dt (I a))), (12, (dt (I 0)))] [(89, (.row 3 1 (([] : List Int).map encI))), (78, (.row 3 1 (([] : List Int).map encI)))]) (True ∧ True ∧ True) (by kernel_rfl) ⟨trivial, trivial, trivial⟩ ?_
            refine T_block ?_
            refine T_turn [] [0, 1, 6, 8, 9, 10, 11, 12] [] ((fun ((j, o, r, q) : Nat × List Int × List Int × Int) => (mk 146 [(0, (dt (I a))), (1, (dt (.sl 1 (ws.map encI)))), (6, (dt (I n))), (8, (dt (I a))), (9, (.one (.own 78))), (10, (.one (.own 89))), (11, (dt (I q))), (12, (dt (I ((j : Nat) : Int))))] [(89, (.row 3 1 (r.map encI))), (78, (.row 3 1 (o.map encI)))])) (0, ([] : List Int), ([] : List Int), a)) (by kernel_rfl) (T_loop (α := Nat × List Int × List Int × Int) (fun ((j, o, r, q) : Nat × List Int × List Int × Int) => (mk 146 [(0, (dt (I a))), (1, (dt (.sl 1 (ws.map encI)))), (6, (dt (I n))), (8, (dt (I a))), (9, (.one (.own 78))), (10, (.one (.own 89))), (11, (dt (I q))), (12, (dt (I ((j : Nat) : Int))))] [(89, (.row 3 1 (r.map encI))), (78, (.row 3 1 (o.map encI)))])) (fun ((j, o, r, q) : Nat × List Int × List Int × Int) => (j ≤ ws.length) ∧ (o = ((partsOf a n ws).take j).map (·.c)) ∧ (r = ((partsOf a n ws).take j).map (·.r)) ∧ (q = leftOf a ((partsOf a n ws).take j)) ∧ True) (fun ((j, o, r, q) : Nat × List Int × List Int × Int) => ws.length - j) (0, ([] : List Int), ([] : List Int), a) ⟨Nat.zero_le _, rfl, rfl, rfl, trivial⟩ ?_)
            rintro ⟨j, o, r, q⟩ ⟨ij, io, ir, iq, _⟩
            have hn0 : 0 < n := by have := sumL_end iv (by omega); omega
            have hol : o.length = j := by rw [io, List.length_map, List.length_take, partsOf_length]; omega
            have hrl : r.length = j := by rw [ir, List.length_map, List.length_take, partsOf_length]; omega
            have hlq := leftOf_bounds ha ha2 (s := n) (by have := sumL_end iv (by omega); omega) hw hl hws (List.take_prefix j _)
            refine T_seq ?_
            refine T_reg [{}, {}, { d := some (I ((ws.length : Nat) : Int)) }] [0, 1, 6, 8, 9, 10, 11, 12, 65] [] (mk 146 [(0, (dt (I a))), (1, (dt (.sl 1 (ws.map encI)))), (6, (dt (I n))), (8, (dt (I a))), (9, (.one (.own 78))), (10, (.one (.own 89))), (11, (dt (I q))), (12, (dt (I ((j : Nat) : Int)))), (65, (dt (B (decide (((j : Nat) : Int) < ((ws.length : Nat) : Int))))))] [(89, (.row 3 1 (r.map encI))), (78, (.row 3 1 (o.map encI)))]) (True ∧ True ∧ True ∧ True ∧ True ∧ (True ∧ D.int .i64 ((ws.map encI).length : Int) = (I ((ws.length : Nat) : Int))) ∧ True ∧ True ∧ True) (by kernel_rfl) ⟨trivial, trivial, trivial, trivial, trivial, ⟨trivial, by rw [List.length_map]⟩, trivial, trivial, trivial⟩ ?_
            refine T_cond (decide (((j : Nat) : Int) < ((ws.length : Nat) : Int))) (by kernel_rfl) (fun h25 => ?_) (fun h25 => ?_)
            · skip
              have g26 : ((j : Nat) : Int) < ((ws.length : Nat) : Int) := of_decide_eq_true (h25)
              refine T_skip ?_
              refine T_seq ?_
              refine T_block ?_
              have lt27 : j < (ws).length := by first | omega | (simp only [List.length_set, List.length_map, List.length_append, List.length_cons, List.length_nil] at *; omega)
              obtain ⟨x28, hx29⟩ : ∃ x, (ws)[j]? = some x := ⟨_, List.getElem?_eq_getElem lt27⟩
              have hwx := hw _ (List.mem_of_getElem? hx29)
              have hml := mul_low ha ha2 hwx
              have hdl := div_low (s := n) hml.1
              refine T_reg [{}, {}, {}, {}, { d := some (I x28) }, {}, { d := some (I (a * x28)) }, {}, { d := some (I ((a * x28).tdiv n)) }, {}, { d := some (.sl 1 ((o ++ [((a * x28).tdiv n)]).map encI)) }] [0, 1, 6, 8, 9, 10, 11, 12] [77] (mk 146 [(0, (dt (I a))), (1, (dt (.sl 1 (ws.map encI)))), (6, (dt (I n))), (8, (dt (I a))), (9, (.one (.own 78))), (10, (.one (.own 89))), (11, (dt (I q))), (12, (dt (I ((j : Nat) : Int))))] [(78, (.row 3 1 ((o ++ [((a * x28).tdiv n)]).map encI))), (89, (.row 3 1 (r.map encI)))]) (True ∧ True ∧ True ∧ True ∧ True ∧ True ∧ True ∧ True ∧ True ∧ (0 ≤ ((j : Nat) : Int) ∧ (ws.map encI)[j]? = some (I x28)) ∧ True ∧ True ∧ True ∧ (IntKind.i64.wrap (a * x28) = (a * x28)) ∧ True ∧ True ∧ True ∧ ((n : Int) ≠ 0 ∧ IntKind.i64.wrap ((a * x28).tdiv n) = ((a * x28).tdiv n)) ∧ True ∧ (dfill (fun i => some (i * 1, 1)) (List.replicate (1 * 1) .junk) [(0, [(.dat (I ((a * x28).tdiv n)))])] = some ((flat ([((a * x28).tdiv n)].map encI)).map .dat)) ∧ True ∧ (((o.map encI).length + ([((a * x28).tdiv n)].map encI).length) * 8 ≤ 140737488355328 ∧ cellsOne ([((a * x28).tdiv n)].map encI) ∧ (o.map encI) ++ [((a * x28).tdiv n)].map encI = (o ++ [((a * x28).tdiv n)]).map encI) ∧ True ∧ True ∧ True) (by kernel_rfl) ⟨trivial, trivial, trivial, trivial, trivial, trivial, trivial, trivial, trivial, ⟨by omega, by rw [List.getElem?_map, hx29]; rfl⟩, trivial, trivial, trivial, (i64_wrap (by omega) (by omega)), trivial, trivial, trivial, ⟨by omega, i64_wrap (by omega) (by omega)⟩, trivial, rfl, trivial, ⟨by simp only [List.length_map, List.length_nil, List.length_cons]; omega, encI_one _, by simp⟩, trivial, trivial, trivial⟩ ?_
              refine T_reg [{}, {}, {}, {}, { d := some (I x28) }, {}, { d := some (I (a * x28)) }, {}, { d := some (I ((a * x28).tmod n)) }, {}, { d := some (.sl 1 ((r ++ [((a * x28).tmod n)]).map encI)) }] [0, 1, 6, 8, 9, 10, 11, 12] [88] (mk 146 [(0, (dt (I a))), (1, (dt (.sl 1 (ws.map encI)))), (6, (dt (I n))), (8, (dt (I a))), (9, (.one (.own 78))), (10, (.one (.own 89))), (11, (dt (I q))), (12, (dt (I ((j : Nat) : Int))))] [(89, (.row 3 1 ((r ++ [((a * x28).tmod n)]).map encI))), (78, (.row 3 1 ((o ++ [((a * x28).tdiv n)]).map encI)))]) (True ∧ True ∧ True ∧ True ∧ True ∧ True ∧ True ∧ True ∧ True ∧ (0 ≤ ((j : Nat) : Int) ∧ (ws.map encI)[j]? = some (I x28)) ∧ True ∧ True ∧ True ∧ (IntKind.i64.wrap (a * x28) = (a * x28)) ∧ True ∧ True ∧ True ∧ ((n : Int) ≠ 0 ∧ ((a * x28).tmod n) = ((a * x28).tmod n)) ∧ True ∧ (dfill (fun i => some (i * 1, 1)) (List.replicate (1 * 1) .junk) [(0, [(.dat (I ((a * x28).tmod n)))])] = some ((flat ([((a * x28).tmod n)].map encI)).map .dat)) ∧ True ∧ (((r.map encI).length + ([((a * x28).tmod n)].map encI).length) * 8 ≤ 140737488355328 ∧ cellsOne ([((a * x28).tmod n)].map encI) ∧ (r.map encI) ++ [((a * x28).tmod n)].map encI = (r ++ [((a * x28).tmod n)]).map encI) ∧ True ∧ True ∧ True) (by kernel_rfl) ⟨trivial, trivial, trivial, trivial, trivial, trivial, trivial, trivial, trivial, ⟨by omega, by rw [List.getElem?_map, hx29]; rfl⟩, trivial, trivial, trivial, (i64_wrap (by omega) (by omega)), trivial, trivial, trivial, ⟨by omega, rfl⟩, trivial, rfl, trivial, ⟨by simp only [List.length_map, List.length_nil, List.length_cons]; omega, encI_one _, by simp⟩, trivial, trivial, trivial⟩ ?_
              refine T_regE [{}, {}, {}, {}, { d := some (I ((a * x28).tdiv n)) }, { d := some (I (q - ((a * x28).tdiv n))) }] (mk 146 [(0, (dt (I a))), (1, (dt (.sl 1 (ws.map encI)))), (6, (dt (I n))), (8, (dt (I a))), (9, (.one (.own 78))), (10, (.one (.own 89))), (11, (dt (I (q - ((a * x28).tdiv n))))), (12, (dt (I ((j : Nat) : Int)))), (90, (dt (I q))), (91, (.one (.own 78))), (92, (dt (I ((j : Nat) : Int)))), (93, (.one (.rref 78 j 0))), (94, (dt (I ((a * x28).tdiv n)))), (95, (dt (I (q - ((a * x28).tdiv n)))))] [(89, (.row 3 1 ((r ++ [((a * x28).tmod n)]).map encI))), (78, (.row 3 1 ((o ++ [((a * x28).tdiv n)]).map encI)))]) (True ∧ True ∧ True ∧ True ∧ True ∧ True ∧ True ∧ (0 ≤ ((j : Nat) : Int) ∧ ((j : Nat) : Int) < ((((o ++ [((a * x28).tdiv n)]).map encI).length : Nat) : Int)) ∧ True ∧ (((o ++ [((a * x28).tdiv n)]).map encI)[j]? = some (I ((a * x28).tdiv n))) ∧ True ∧ (IntKind.i64.wrap (q - ((a * x28).tdiv n)) = (q - ((a * x28).tdiv n))) ∧ True ∧ True ∧ True) (by kernel_rfl) ⟨trivial, trivial, trivial, trivial, trivial, trivial, trivial, ⟨by omega, by rw [List.length_map]; first | omega | (simp only [List.length_append, List.length_set, List.length_map, List.length_cons, List.length_nil] at *; omega)⟩, trivial, (by rw [List.getElem?_map, (get_snoc hol)]; rfl), trivial, (i64_wrap (by omega) (by omega)), trivial, trivial, trivial⟩ ?_
              refine T_regE [{}, { d := some (I ((j + 1 : Nat) : Int)) }] (mk 146 [(0, (dt (I a))), (1, (dt (.sl 1 (ws.map encI)))), (6, (dt (I n))), (8, (dt (I a))), (9, (.one (.own 78))), (10, (.one (.own 89))), (11, (dt (I (q - ((a * x28).tdiv n))))), (12, (dt (I ((j + 1 : Nat) : Int)))), (66, (dt (I ((j : Nat) : Int)))), (67, (dt (I ((j + 1 : Nat) : Int)))), (90, (dt (I q))), (91, (.one (.own 78))), (92, (dt (I ((j : Nat) : Int)))), (93, (.one (.rref 78 j 0))), (94, (dt (I ((a * x28).tdiv n)))), (95, (dt (I (q - ((a * x28).tdiv n)))))] [(89, (.row 3 1 ((r ++ [((a * x28).tmod n)]).map encI))), (78, (.row 3 1 ((o ++ [((a * x28).tdiv n)]).map encI)))]) (True ∧ True ∧ True ∧ (IntKind.i64.wrap (((j : Nat) : Int) + 1) = ((j + 1 : Nat) : Int)) ∧ True ∧ True ∧ True) (by kernel_rfl) ⟨trivial, trivial, trivial, (by rw [i64_wrap (by omega) (by omega)]; omega), trivial, trivial, trivial⟩ ?_
              refine Exists.intro (j + 1, (o ++ [((a * x28).tdiv n)]), (r ++ [((a * x28).tmod n)]), (q - ((a * x28).tdiv n))) ⟨⟨by omega, by rw [io, take_snoc (part_get hx29), List.map_append]; rfl, by rw [ir, take_snoc (part_get hx29), List.map_append]; rfl, by rw [iq, take_snoc (part_get hx29), leftOf_snoc], trivial⟩, by first | omega | (dsimp only; omega), le_turn [] [0, 1, 6, 8, 9, 10, 11, 12] [] (by kernel_rfl)⟩
            · skip
              have g30 : ¬ (((j : Nat) : Int) < ((ws.length : Nat) : Int)) := of_decide_eq_false (h25)
              refine T_exit ?_
              refine T_seq ?_
              refine T_block ?_
              refine T_turn [] [0, 9, 10, 11] [] ((fun ((m, o2, r2, q2) : Nat × List Int × List Int × Int) => (mk 146 [(0, (dt (I a))), (9, (.one (.own 78))), (10, (.one (.own 89))), (11, (dt (I q2)))] [(89, (.row 3 1 (r2.map encI))), (78, (.row 3 1 (o2.map encI)))])) (0, o, r, q)) (by kernel_rfl) (T_loop (α := Nat × List Int × List Int × Int) (fun ((m, o2, r2, q2) : Nat × List Int × List Int × Int) => (mk 146 [(0, (dt (I a))), (9, (.one (.own 78))), (10, (.one (.own 89))), (11, (dt (I q2)))] [(89, (.row 3 1 (r2.map encI))), (78, (.row 3 1 (o2.map encI)))])) (fun ((m, o2, r2, q2) : Nat × List Int × List Int × Int) => ((m : Int) ≤ leftOf a (partsOf a n ws)) ∧ (o2 = outM (partsOf a n ws) m) ∧ (r2 = restM (partsOf a n ws) m) ∧ (q2 = leftOf a (partsOf a n ws) - (m : Int)) ∧ (q2 ≤ 1125899906842624) ∧ True) (fun ((m, o2, r2, q2) : Nat × List Int × List Int × Int) => q2.toNat) (0, o, r, q) ⟨(left_range ha (by have := sumL_end iv (by omega); omega) (fun y hy => (hw y hy).1) (sumL_end iv (by omega))).1, by rw [io, List.take_of_length_le (by rw [partsOf_length]; omega)]; exact outM_zero _, by rw [ir, List.take_of_length_le (by rw [partsOf_length]; omega)]; exact restM_zero _, by rw [iq, List.take_of_length_le (by rw [partsOf_length]; omega)]; simp, by have := leftOf_bounds ha ha2 (s := n) (by have := sumL_end iv (by omega); omega) hw hl hws (List.take_prefix j _); omega, trivial⟩ ?_)
              rintro ⟨m, o2, r2, q2⟩ ⟨im, io2, ir2, iq2, iq3, _⟩
              have hol2 : o2.length = ws.length := by rw [io2, outM_length, partsOf_length]
              have hrl2 : r2.length = ws.length := by rw [ir2, restM_length, partsOf_length]
              have hne := sumL_nil ws
              refine T_seq ?_
              refine T_reg [] [0, 9, 10, 11, 97] [] (mk 146 [(0, (dt (I a))), (9, (.one (.own 78))), (10, (.one (.own 89))), (11, (dt (I q2))), (97, (dt (B (decide (q2 > 0)))))] [(89, (.row 3 1 (r2.map encI))), (78, (.row 3 1 (o2.map encI)))]) (True ∧ True ∧ True ∧ True ∧ True) (by kernel_rfl) ⟨trivial, trivial, trivial, trivial, trivial⟩ ?_
              refine T_cond (decide (q2 > 0)) (by kernel_rfl) (fun h31 => ?_) (fun h31 => ?_)
              · skip
                have g32 : q2 > 0 := of_decide_eq_true (h31)
                refine T_skip ?_
                refine T_block ?_
                refine T_reg [] [0, 9, 10, 11, 13] [] (mk 146 [(0, (dt (I a))), (9, (.one (.own 78))), (10, (.one (.own 89))), (11, (dt (I q2))), (13, (dt (I 0)))] [(89, (.row 3 1 (r2.map encI))), (78, (.row 3 1 (o2.map encI)))]) (True ∧ True ∧ True) (by kernel_rfl) ⟨trivial, trivial, trivial⟩ ?_
                refine T_seq ?_
                refine T_reg [] [0, 9, 10, 11, 13, 14] [] (mk 146 [(0, (dt (I a))), (9, (.one (.own 78))), (10, (.one (.own 89))), (11, (dt (I q2))), (13, (dt (I 0))), (14, (dt (I 1)))] [(89, (.row 3 1 (r2.map encI))), (78, (.row 3 1 (o2.map encI)))]) (True ∧ True ∧ True) (by kernel_rfl) ⟨trivial, trivial, trivial⟩ ?_
                refine T_block ?_
                refine T_turn [] [0, 9, 10, 11, 13, 14] [] ((fun ((i, b) : Nat × Nat) => (mk 146 [(0, (dt (I a))), (9, (.one (.own 78))), (10, (.one (.own 89))), (11, (dt (I q2))), (13, (dt (I ((b : Nat) : Int)))), (14, (dt (I ((i : Nat) : Int))))] [(89, (.row 3 1 (r2.map encI))), (78, (.row 3 1 (o2.map encI)))])) (1, 0)) (by kernel_rfl) (T_loop (α := Nat × Nat) (fun ((i, b) : Nat × Nat) => (mk 146 [(0, (dt (I a))), (9, (.one (.own 78))), (10, (.one (.own 89))), (11, (dt (I q2))), (13, (dt (I ((b : Nat) : Int)))), (14, (dt (I ((i : Nat) : Int))))] [(89, (.row 3 1 (r2.map encI))), (78, (.row 3 1 (o2.map encI)))])) (fun ((i, b) : Nat × Nat) => (i ≤ r2.length) ∧ (b < i) ∧ (Best r2 i b) ∧ True) (fun ((i, b) : Nat × Nat) => r2.length - i) (1, 0) ⟨by omega, Nat.zero_lt_one, best_start _, trivial⟩ ?_)
                rintro ⟨i, b⟩ ⟨ii, ibi, ibs, _⟩
                refine T_seq ?_
                refine T_reg [{}, {}, { d := some (I ((r2.length : Nat) : Int)) }] [0, 9, 10, 11, 13, 14, 101] [] (mk 146 [(0, (dt (I a))), (9, (.one (.own 78))), (10, (.one (.own 89))), (11, (dt (I q2))), (13, (dt (I ((b : Nat) : Int)))), (14, (dt (I ((i : Nat) : Int)))), (101, (dt (B (decide (((i : Nat) : Int) < ((r2.length : Nat) : Int))))))] [(89, (.row 3 1 (r2.map encI))), (78, (.row 3 1 (o2.map encI)))]) (True ∧ True ∧ True ∧ True ∧ True ∧ (True ∧ D.int .i64 ((r2.map encI).length : Int) = (I ((r2.length : Nat) : Int))) ∧ True ∧ True ∧ True) (by kernel_rfl) ⟨trivial, trivial, trivial, trivial, trivial, ⟨trivial, by rw [List.length_map]⟩, trivial, trivial, trivial⟩ ?_
                refine T_cond (decide (((i : Nat) : Int) < ((r2.length : Nat) : Int))) (by kernel_rfl) (fun h33 => ?_) (fun h33 => ?_)
                · skip
                  have g34 : ((i : Nat) : Int) < ((r2.length : Nat) : Int) := of_decide_eq_true (h33)
                  refine T_skip ?_
                  refine T_seq ?_
                  refine T_block ?_
                  have lt35 : i < (r2).length := by first | omega | (simp only [List.length_set, List.length_map, List.length_append, List.length_cons, List.length_nil] at *; omega)
                  obtain ⟨x36, hx37⟩ : ∃ x, (r2)[i]? = some x := ⟨_, List.getElem?_eq_getElem lt35⟩
                  have lt38 : b < (r2).length := by first | omega | (simp only [List.length_set, List.length_map, List.length_append, List.length_cons, List.length_nil] at *; omega)
                  obtain ⟨x39, hx40⟩ : ∃ x, (r2)[b]? = some x := ⟨_, List.getElem?_eq_getElem lt38⟩
                  refine T_regD 9 [{}, {}, {}, { d := some (I x36) }, {}, {}, {}, { d := some (I x39) }] [0, 9, 10, 11, 13, 14, 112] [] (mk 146 [(0, (dt (I a))), (9, (.one (.own 78))), (10, (.one (.own 89))), (11, (dt (I q2))), (13, (dt (I ((b : Nat) : Int)))), (14, (dt (I ((i : Nat) : Int)))), (112, (dt (B (decide (x36 > x39)))))] [(89, (.row 3 1 (r2.map encI))), (78, (.row 3 1 (o2.map encI)))]) ((True ∧ True ∧ True ∧ True ∧ True ∧ (0 ≤ ((i : Nat) : Int) ∧ ((i : Nat) : Int) < (((r2.map encI).length : Nat) : Int)) ∧ True ∧ ((r2.map encI)[i]? = some (I x36)) ∧ True ∧ True ∧ True ∧ True ∧ True ∧ (0 ≤ ((b : Nat) : Int) ∧ ((b : Nat) : Int) < (((r2.map encI).length : Nat) : Int)) ∧ True ∧ ((r2.map encI)[b]? = some (I x39)) ∧ True ∧ True ∧ True) ∧ True) (by kernel_rfl) (by kernel_rfl) (by kernel_rfl) ⟨⟨trivial, trivial, trivial, trivial, trivial, ⟨by omega, by rw [List.length_map]; first | omega | (simp only [List.length_append, List.length_set, List.length_map, List.length_cons, List.length_nil] at *; omega)⟩, trivial, (by rw [List.getElem?_map, hx37]; rfl), trivial, trivial, trivial, trivial, trivial, ⟨by omega, by rw [List.length_map]; first | omega | (simp only [List.length_append, List.length_set, List.length_map, List.length_cons, List.length_nil] at *; omega)⟩, trivial, (by rw [List.getElem?_map, hx40]; rfl), trivial, trivial, trivial⟩, trivial⟩ ?_
                  refine T_cond (decide (x36 > x39)) (by kernel_rfl) (fun h41 => ?_) (fun h41 => ?_)
                  · skip
                    have g42 : x36 > x39 := of_decide_eq_true (h41)
                    refine T_regE [] (mk 146 [(0, (dt (I a))), (9, (.one (.own 78))), (10, (.one (.own 89))), (11, (dt (I q2))), (13, (dt (I ((i : Nat) : Int)))), (14, (dt (I ((i : Nat) : Int)))), (112, (dt (B (decide (x36 > x39))))), (113, (dt (I ((i : Nat) : Int))))] [(89, (.row 3 1 (r2.map encI))), (78, (.row 3 1 (o2.map encI)))]) (True ∧ True ∧ True ∧ True ∧ True) (by kernel_rfl) ⟨trivial, trivial, trivial, trivial, trivial⟩ ?_
                    refine T_regE [{}, { d := some (I ((i + 1 : Nat) : Int)) }] (mk 146 [(0, (dt (I a))), (9, (.one (.own 78))), (10, (.one (.own 89))), (11, (dt (I q2))), (13, (dt (I ((i : Nat) : Int)))), (14, (dt (I ((i + 1 : Nat) : Int)))), (102, (dt (I ((i : Nat) : Int)))), (103, (dt (I ((i + 1 : Nat) : Int)))), (112, (dt (B (decide (x36 > x39))))), (113, (dt (I ((i : Nat) : Int))))] [(89, (.row 3 1 (r2.map encI))), (78, (.row 3 1 (o2.map encI)))]) (True ∧ True ∧ True ∧ (IntKind.i64.wrap (((i : Nat) : Int) + 1) = ((i + 1 : Nat) : Int)) ∧ True ∧ True ∧ True) (by kernel_rfl) ⟨trivial, trivial, trivial, (by rw [i64_wrap (by omega) (by omega)]; omega), trivial, trivial, trivial⟩ ?_
                    refine Exists.intro (i + 1, i) ⟨⟨by omega, by omega, best_more ibs hx37 hx40 ibi (by assumption), trivial⟩, by first | omega | (dsimp only; omega), le_turn [] [0, 9, 10, 11, 13, 14] [] (by kernel_rfl)⟩
                  · skip
                    have g43 : ¬ (x36 > x39) := of_decide_eq_false (h41)
                    refine T_skip ?_
                    refine T_regE [{}, { d := some (I ((i + 1 : Nat) : Int)) }] (mk 146 [(0, (dt (I a))), (9, (.one (.own 78))), (10, (.one (.own 89))), (11, (dt (I q2))), (13, (dt (I ((b : Nat) : Int)))), (14, (dt (I ((i + 1 : Nat) : Int)))), (102, (dt (I ((i : Nat) : Int)))), (103, (dt (I ((i + 1 : Nat) : Int)))), (112, (dt (B (decide (x36 > x39)))))] [(89, (.row 3 1 (r2.map encI))), (78, (.row 3 1 (o2.map encI)))]) (True ∧ True ∧ True ∧ (IntKind.i64.wrap (((i : Nat) : Int) + 1) = ((i + 1 : Nat) : Int)) ∧ True ∧ True ∧ True) (by kernel_rfl) ⟨trivial, trivial, trivial, (by rw [i64_wrap (by omega) (by omega)]; omega), trivial, trivial, trivial⟩ ?_
                    refine Exists.intro (i + 1, b) ⟨⟨by omega, by omega, best_less ibs hx37 hx40 ibi (by assumption), trivial⟩, by first | omega | (dsimp only; omega), le_turn [] [0, 9, 10, 11, 13, 14] [] (by kernel_rfl)⟩
                · skip
                  have g44 : ¬ (((i : Nat) : Int) < ((r2.length : Nat) : Int)) := of_decide_eq_false (h33)
                  refine T_exit ?_
                  have lt45 : b < (o2).length := by first | omega | (simp only [List.length_set, List.length_map, List.length_append, List.length_cons, List.length_nil] at *; omega)
                  obtain ⟨x46, hx47⟩ : ∃ x, (o2)[b]? = some x := ⟨_, List.getElem?_eq_getElem lt45⟩
                  have hbo := out_bounds (fun p hp => by have := part_bounds2 ha ha2 (s := n) (by have := sumL_end iv (by omega); omega) hw hl hws hp; omega) (show (outM (partsOf a n ws) m)[b]? = some x46 by rw [← io2]; exact hx47)
                  refine T_reg [{}, {}, {}, {}, {}, { d := some (I x46) }, { d := some (I (x46 + 1)) }, {}, { d := some (.tup [(I x46), (.sl 1 ((o2.set b (x46 + 1)).map encI))]) }] [0, 9, 10, 11, 13] [] (mk 146 [(0, (dt (I a))), (9, (.one (.own 78))), (10, (.one (.own 89))), (11, (dt (I q2))), (13, (dt (I ((b : Nat) : Int))))] [(89, (.row 3 1 (r2.map encI))), (78, (.row 3 1 ((o2.set b (x46 + 1)).map encI)))]) (True ∧ True ∧ True ∧ True ∧ True ∧ True ∧ True ∧ True ∧ True ∧ (0 ≤ ((b : Nat) : Int) ∧ ((b : Nat) : Int) < (((o2.map encI).length : Nat) : Int)) ∧ True ∧ ((o2.map encI)[b]? = some (I x46)) ∧ True ∧ (IntKind.i64.wrap (x46 + 1) = (x46 + 1)) ∧ True ∧ (0 ≤ ((b : Nat) : Int) ∧ ((b : Nat) : Int) < (((o2.map encI).length : Nat) : Int)) ∧ True ∧ ((o2.map encI)[b]? = some (I x46) ∧ (o2.map encI).set b (I (x46 + 1)) = (o2.set b (x46 + 1)).map encI) ∧ True) (by kernel_rfl) ⟨trivial, trivial, trivial, trivial, trivial, trivial, trivial, trivial, trivial, ⟨by omega, by rw [List.length_map]; first | omega | (simp only [List.length_append, List.length_set, List.length_map, List.length_cons, List.length_nil] at *; omega)⟩, trivial, (by rw [List.getElem?_map, hx47]; rfl), trivial, (i64_wrap (by omega) (by omega)), trivial, ⟨by omega, by rw [List.length_map]; first | omega | (simp only [List.length_append, List.length_set, List.length_map, List.length_cons, List.length_nil] at *; omega)⟩, trivial, ⟨by rw [List.getElem?_map, hx47]; rfl, by simp only [List.map_set]; first | done | rfl⟩, trivial⟩ ?_
                  have lt48 : b < (r2).length := by first | omega | (simp only [List.length_set, List.length_map, List.length_append, List.length_cons, List.length_nil] at *; omega)
                  obtain ⟨x49, hx50⟩ : ∃ x, (r2)[b]? = some x := ⟨_, List.getElem?_eq_getElem lt48⟩
                  refine T_reg [{}, {}, {}, { d := some (.tup [(I x49), (.sl 1 ((r2.set b (-1)).map encI))]) }] [0, 9, 10, 11] [] (mk 146 [(0, (dt (I a))), (9, (.one (.own 78))), (10, (.one (.own 89))), (11, (dt (I q2)))] [(89, (.row 3 1 ((r2.set b (-1)).map encI))), (78, (.row 3 1 ((o2.set b (x46 + 1)).map encI)))]) (True ∧ True ∧ True ∧ True ∧ True ∧ (0 ≤ ((b : Nat) : Int) ∧ ((b : Nat) : Int) < (((r2.map encI).length : Nat) : Int)) ∧ True ∧ ((r2.map encI)[b]? = some (I x49) ∧ (r2.map encI).set b (I (-1)) = (r2.set b (-1)).map encI) ∧ True) (by kernel_rfl) ⟨trivial, trivial, trivial, trivial, trivial, ⟨by omega, by rw [List.length_map]; first | omega | (simp only [List.length_append, List.length_set, List.length_map, List.length_cons, List.length_nil] at *; omega)⟩, trivial, ⟨by rw [List.getElem?_map, hx50]; rfl, by simp only [List.map_set]; first | done | rfl⟩, trivial⟩ ?_
                  refine T_regE [{}, { d := some (I (q2 - 1)) }] (mk 146 [(0, (dt (I a))), (9, (.one (.own 78))), (10, (.one (.own 89))), (11, (dt (I (q2 - 1)))), (125, (dt (I q2))), (126, (dt (I (q2 - 1))))] [(89, (.row 3 1 ((r2.set b (-1)).map encI))), (78, (.row 3 1 ((o2.set b (x46 + 1)).map encI)))]) (True ∧ True ∧ True ∧ (IntKind.i64.wrap (q2 - 1) = (q2 - 1)) ∧ True ∧ True ∧ True) (by kernel_rfl) ⟨trivial, trivial, trivial, (i64_wrap (by omega) (by omega)), trivial, trivial, trivial⟩ ?_
                  refine Exists.intro (m + 1, (o2.set b (x46 + 1)), (r2.set b (-1)), (q2 - 1)) ⟨⟨by omega, by rw [io2]; exact (pick_step (m := m) ha (by have := sumL_end iv (by omega); omega) (fun y hy => (hw y hy).1) (sumL_end iv (by omega)) (by omega) (by rw [← ir2]; exact best_len ibs (by omega)) (by rw [← io2]; exact hx47) (by rw [← ir2]; exact hx50)).1, by rw [ir2]; exact (pick_step (m := m) ha (by have := sumL_end iv (by omega); omega) (fun y hy => (hw y hy).1) (sumL_end iv (by omega)) (by omega) (by rw [← ir2]; exact best_len ibs (by omega)) (by rw [← io2]; exact hx47) (by rw [← ir2]; exact hx50)).2, by omega, by omega, trivial⟩, by first | omega | (dsimp only; omega), le_turn [] [0, 9, 10, 11] [] (by kernel_rfl)⟩
              · skip
                have g51 : ¬ (q2 > 0) := of_decide_eq_false (h31)
                refine T_exit ?_
                refine T_seq ?_
                refine T_reg [] [0, 9, 15] [89] (mk 146 [(0, (dt (I a))), (9, (.one (.own 78))), (15, (dt (I 0)))] [(78, (.row 3 1 (o2.map encI)))]) (True ∧ True ∧ True) (by kernel_rfl) ⟨trivial, trivial, trivial⟩ ?_
                refine T_block ?_
                refine T_turn [] [0, 9, 15] [] ((fun (t : Nat) => (mk 146 [(0, (dt (I a))), (9, (.one (.own 78))), (15, (dt (I ((t : Nat) : Int))))] [(78, (.row 3 1 (o2.map encI)))])) (0)) (by kernel_rfl) (T_loop (α := Nat) (fun (t : Nat) => (mk 146 [(0, (dt (I a))), (9, (.one (.own 78))), (15, (dt (I ((t : Nat) : Int))))] [(78, (.row 3 1 (o2.map encI)))])) (fun (t : Nat) => True) (fun (t : Nat) => 0) (0) trivial ?_)
                rintro t _
                refine T_seq ?_
                rcases Bool.eq_false_or_eq_true (decide (((t : Nat) : Int) < ((o2.length : Nat) : Int))) with h52 | h52
                · skip
                  have g53 : ((t : Nat) : Int) < ((o2.length : Nat) : Int) := of_decide_eq_true (h52)
                  refine T_reg [{}, {}, { d := some (I ((o2.length : Nat) : Int)) }, {}, {}, {}, {}, { d := some (B true) }] [0, 9, 15, 134] [] (mk 146 [(0, (dt (I a))), (9, (.one (.own 78))), (15, (dt (I ((t : Nat) : Int)))), (134, (dt (B (decide (a < 0)))))] [(78, (.row 3 1 (o2.map encI)))]) (True ∧ True ∧ True ∧ True ∧ True ∧ (True ∧ D.int .i64 ((o2.map encI).length : Int) = (I ((o2.length : Nat) : Int))) ∧ True ∧ True ∧ True ∧ True ∧ (((decide (((t : Nat) : Int) < ((o2.length : Nat) : Int))) == true) = true) ∧ True ∧ (((decide (((t : Nat) : Int) < ((o2.length : Nat) : Int))) == true) = true) ∧ True ∧ True ∧ ((decide (((t : Nat) : Int) < ((o2.length : Nat) : Int))) = true) ∧ True) (by kernel_rfl) ⟨trivial, trivial, trivial, trivial, trivial, ⟨trivial, by rw [List.length_map]⟩, trivial, trivial, trivial, trivial, (by rw [show (decide (((t : Nat) : Int) < ((o2.length : Nat) : Int))) = true from h52]; rfl), trivial, (by rw [show (decide (((t : Nat) : Int) < ((o2.length : Nat) : Int))) = true from h52]; rfl), trivial, trivial, h52, trivial⟩ ?_
                  refine T_cond (decide (a < 0)) (by kernel_rfl) (fun h54 => ?_) (fun h54 => ?_)
                  · skip
                    have g55 : a < 0 := of_decide_eq_true (h54)
                    exact (by exfalso; have := chkM_cases a; have h0 := sumL_nil ws; first | omega | (have := sumL_end iv (by omega); omega))
                  · skip
                    have g56 : ¬ (a < 0) := of_decide_eq_false (h54)
                    refine T_exit ?_
                    refine T_reg [] [4, 5] [] (mk 146 [(4, (.one (.own 78))), (5, (dt (I 0)))] [(78, (.row 3 1 (o2.map encI)))]) (True ∧ True ∧ True ∧ True ∧ True ∧ True ∧ True) (by kernel_rfl) ⟨trivial, trivial, trivial, trivial, trivial, trivial, trivial⟩ ?_
                    refine T_ret ?_
                    exact ret_here [(.one (.own 78)), (dt (I 0))] (by kernel_rfl) ⟨(by show D.sl 1 ((splitW a (sumL 0 ws) ws).map encI) = D.sl 1 (o2.map encI); exact congrArg (fun l => D.sl 1 (l.map encI)) ((by rw [io2, ← sumL_end iv (by omega)]; exact (outM_end (by omega)).symm) : (splitW a (sumL 0 ws) ws) = o2)), (.inl rfl), trivial⟩
                · skip
                  have g57 : ¬ (((t : Nat) : Int) < ((o2.length : Nat) : Int)) := of_decide_eq_false (h52)
                  refine T_reg [{}, {}, { d := some (I ((o2.length : Nat) : Int)) }, {}, {}, { g := false }, { g := false }, { d := some (B false) }] [0, 9, 15, 134] [] (mk 146 [(0, (dt (I a))), (9, (.one (.own 78))), (15, (dt (I ((t : Nat) : Int)))), (134, (dt (B false)))] [(78, (.row 3 1 (o2.map encI)))]) (True ∧ True ∧ True ∧ True ∧ True ∧ (True ∧ D.int .i64 ((o2.map encI).length : Int) = (I ((o2.length : Nat) : Int))) ∧ True ∧ True ∧ True ∧ True ∧ (((decide (((t : Nat) : Int) < ((o2.length : Nat) : Int))) == true) = false) ∧ (((decide (((t : Nat) : Int) < ((o2.length : Nat) : Int))) == true) = false) ∧ True ∧ ((decide (((t : Nat) : Int) < ((o2.length : Nat) : Int))) = false) ∧ True) (by kernel_rfl) ⟨trivial, trivial, trivial, trivial, trivial, ⟨trivial, by rw [List.length_map]⟩, trivial, trivial, trivial, trivial, (by rw [show (decide (((t : Nat) : Int) < ((o2.length : Nat) : Int))) = false from h52]; rfl), (by rw [show (decide (((t : Nat) : Int) < ((o2.length : Nat) : Int))) = false from h52]; rfl), trivial, h52, trivial⟩ ?_
                  refine T_cond false (by kernel_rfl) (fun h => absurd (h.symm.trans rfl) (by decide)) (fun _ => ?_)
                  refine T_exit ?_
                  refine T_reg [] [4, 5] [] (mk 146 [(4, (.one (.own 78))), (5, (dt (I 0)))] [(78, (.row 3 1 (o2.map encI)))]) (True ∧ True ∧ True ∧ True ∧ True ∧ True ∧ True) (by kernel_rfl) ⟨trivial, trivial, trivial, trivial, trivial, trivial, trivial⟩ ?_
                  refine T_ret ?_
                  exact ret_here [(.one (.own 78)), (dt (I 0))] (by kernel_rfl) ⟨(by show D.sl 1 ((splitW a (sumL 0 ws) ws).map encI) = D.sl 1 (o2.map encI); exact congrArg (fun l => D.sl 1 (l.map encI)) ((by rw [io2, ← sumL_end iv (by omega)]; exact (outM_end (by omega)).symm) : (splitW a (sumL 0 ws) ws) = o2)), (.inl rfl), trivial⟩

end Go.Proofs.Ythpjlkpkhlkhbaa

/-
  The plain data of the payments of a fee: shares, and what each club gets. Conditions: those of each theorem.
-/
set_option linter.unusedVariables false
set_option linter.unusedSimpArgs false
namespace Go.Proofs.Ythpjlkpkhlkhbaa
open Go.DL
def pickPos : List Train → List Int → List Pay
  | t :: ts, n :: ns => if n > 0 then ⟨t.c, n⟩ :: pickPos ts ns else pickPos ts ns
  | _, _ => []
def wsOf (f : Fee) : List Int := f.t.map (·.s)
def partsF (f : Fee) : List Int := splitW (solid f) (sumL 0 (wsOf f)) (wsOf f)
def shares (f : Fee) : List Pay := if chk f ≠ 0 then [] else pickPos f.t (partsF f)
structure SplitPre (a : Int) (ws : List Int) : Prop where
  ha : 0 ≤ a
  ha2 : a ≤ 1125899906842624
  hw : ∀ x ∈ ws, 0 ≤ x ∧ x ≤ 1000
  hl : ws.length ≤ 256
  hs : 0 < sumL 0 ws
theorem trOK_all {p : Int} {l : List Train} (h : trOK p l = true) : ∀ t ∈ l, 0 ≤ t.c ∧ t.c < 192 ∧ 1 ≤ t.s ∧ t.s ≤ 12 ∧ p < t.c := by
  induction l generalizing p with
  | nil => intro t ht; cases ht
  | cons x l ih =>
    intro t ht
    rw [trOK] at h
    split at h
    · cases h
    · rcases List.mem_cons.1 ht with rfl | ht
      · omega
      · have := ih h t ht; omega
theorem split_pre {f : Fee} (h : chk f = 0) (hn : f.t.length ≠ 0) : SplitPre (solid f) (wsOf f) := by
  have hb := solid_bounds f h
  rcases chk_cases f with hc | ⟨_, hh, ht⟩
  · omega
  have hall := trOK_all ht
  have h1 : ∀ x ∈ wsOf f, 1 ≤ x ∧ x ≤ 12 := fun x hx => by
    obtain ⟨t, ht, rfl⟩ := List.mem_map.1 hx
    have := hall t ht; omega
  refine ⟨hb.1, by omega, fun x hx => by have := h1 x hx; omega, by unfold headOK at hh; simp only [wsOf, List.length_map]; omega, ?_⟩
  cases e : f.t with
  | nil => rw [e] at hn; exact absurd rfl hn
  | cons x l =>
    have h2 : x.s ∈ wsOf f := by simp [wsOf, e]
    have h3 := le_sumL (l := wsOf f) (fun y hy => by have := h1 y hy; omega) h2
    have := h1 _ h2
    omega
theorem splitW_length (a s : Int) (ws : List Int) : (splitW a s ws).length = ws.length := by simp [splitW, partsOf_length]
theorem partsF_length (f : Fee) : (partsF f).length = f.t.length := by rw [partsF, splitW_length, wsOf, List.length_map]
theorem pick_yes {f : Fee} {P : List Int} {o : List Pay} {k : Nat} {x : Train} {n : Int} (iv : o ++ pickPos (f.t.drop k) (P.drop k) = pickPos f.t P) (h1 : f.t[k]? = some x) (h2 : P[k]? = some n) (h : n > 0) : (o ++ [(⟨x.c, n⟩ : Pay)]) ++ pickPos (f.t.drop (k + 1)) (P.drop (k + 1)) = pickPos f.t P := by
  rw [← iv, drop_cons h1, drop_cons h2, pickPos, if_pos h]; simp
theorem pick_no {f : Fee} {P : List Int} {o : List Pay} {k : Nat} {x : Train} {n : Int} (iv : o ++ pickPos (f.t.drop k) (P.drop k) = pickPos f.t P) (h1 : f.t[k]? = some x) (h2 : P[k]? = some n) (h : ¬ n > 0) : o ++ pickPos (f.t.drop (k + 1)) (P.drop (k + 1)) = pickPos f.t P := by
  rw [← iv, drop_cons h1, drop_cons h2, pickPos, if_neg h]
theorem pick_end {f : Fee} {P : List Int} {o : List Pay} {k : Nat} (iv : o ++ pickPos (f.t.drop k) (P.drop k) = pickPos f.t P) (h : P.length ≤ k) : o = pickPos f.t P := by
  rw [← iv, List.drop_eq_nil_of_le h]
  cases f.t.drop k <;> simp [pickPos]
theorem shares_nil {f : Fee} (h : f.t.length = 0) : shares f = [] := by
  rw [shares]; split
  · rfl
  · cases e : f.t with
    | nil => rfl
    | cons x l => rw [e] at h; simp at h
theorem shares_bad {f : Fee} (h : chk f ≠ 0) : shares f = [] := by rw [shares, if_pos h]
theorem shares_is {f : Fee} {w : List Int} (h : chk f = 0) (hw : w = wsOf f) : pickPos f.t (splitW (solid f) (sumL 0 w) w) = shares f := by rw [shares, if_neg (by omega), hw]; rfl
theorem pickPos_len (l : List Train) : ∀ P : List Int, (pickPos l P).length ≤ l.length := by
  induction l with
  | nil => intro P; simp [pickPos]
  | cons x l ih =>
    intro P
    cases P with
    | nil => simp [pickPos]
    | cons n P =>
      rw [pickPos]; have := ih P
      split <;> simp only [List.length_cons] <;> omega
theorem chk_len {f : Fee} (h : chk f = 0) : f.t.length ≤ 40 := by
  rcases chk_cases f with hc | ⟨_, hh, ht⟩
  · omega
  · unfold headOK at hh; omega
theorem shares_len (f : Fee) : (shares f).length ≤ 40 := by
  rw [shares]; split
  · exact Nat.zero_le _
  · have := pickPos_len f.t (partsF f)
    have := chk_len (f := f) (by omega)
    omega
theorem splitW_bounds {a : Int} {ws : List Int} (h : SplitPre a ws) : ∀ x ∈ splitW a (sumL 0 ws) ws, 0 ≤ x ∧ x ≤ 1125899906842625 := by
  intro x hx
  simp only [splitW, List.mem_map] at hx
  obtain ⟨p, hp, rfl⟩ := hx
  have := part_bounds2 h.ha h.ha2 h.hs h.hw h.hl (fun x hx => le_sumL (fun y hy => (h.hw y hy).1) hx) hp
  split <;> omega
theorem pickPos_mem {l : List Train} : ∀ {P : List Int} {p : Pay}, p ∈ pickPos l P → (∃ t ∈ l, t.c = p.c) ∧ p.a ∈ P ∧ 0 < p.a := by
  induction l with
  | nil => intro P p h; simp [pickPos] at h
  | cons x l ih =>
    intro P p h
    cases P with
    | nil => simp [pickPos] at h
    | cons n P =>
      rw [pickPos] at h
      split at h
      · rename_i hn
        rcases List.mem_cons.1 h with rfl | h
        · exact ⟨⟨x, by simp, rfl⟩, by simp, hn⟩
        · obtain ⟨⟨t, ht, e⟩, h2, h3⟩ := ih h; exact ⟨⟨t, by simp [ht], e⟩, by simp [h2], h3⟩
      · obtain ⟨⟨t, ht, e⟩, h2, h3⟩ := ih h; exact ⟨⟨t, by simp [ht], e⟩, by simp [h2], h3⟩
theorem shares_mem {f : Fee} {p : Pay} (h : p ∈ shares f) : 0 ≤ p.c ∧ p.c < 192 ∧ 0 < p.a ∧ p.a ≤ 1125899906842625 := by
  rw [shares] at h
  split at h
  · cases h
  · rename_i hc
    have hc0 : chk f = 0 := by omega
    obtain ⟨⟨t, ht, e⟩, h2, h3⟩ := pickPos_mem h
    rcases chk_cases f with h4 | ⟨_, hh, htr⟩
    · omega
    have h5 := trOK_all htr t ht
    have hn : f.t.length ≠ 0 := by intro e; cases hl : f.t with
      | nil => rw [hl] at ht; cases ht
      | cons x l => rw [hl] at e; simp at e
    have h6 := splitW_bounds (split_pre hc0 hn) _ h2
    omega

/-! ### what a club gets of a list -/
def tot (c : Int) : List Pay → Int
  | [] => 0
  | p :: l => (if p.c = c then p.a else 0) + tot c l
def sumA : List Pay → Int
  | [] => 0
  | p :: l => p.a + sumA l
def allP (f : Fee) (s : Int) : List Pay := shares f ++ [(⟨f.m, (profit f).1⟩ : Pay)] ++ [(⟨s, f.a - sumA (shares f) - (profit f).1⟩ : Pay)]
def payOf (L : List Pay) (c : Int) : Option Pay := if tot c L > 0 then some ⟨c, tot c L⟩ else none
def payList (L : List Pay) : List Pay := (List.range 192).filterMap fun c => payOf L (c : Nat)
def pays (f : Fee) (s : Int) : List Pay := if chk f ≠ 0 then [] else if s < 0 ∨ s ≥ 192 then [] else payList (allP f s)
def paysE (f : Fee) (s : Int) : Int := if chk f ≠ 0 then chk f else if s < 0 ∨ s ≥ 192 then 1 else 0
theorem tot_append (c : Int) (a b : List Pay) : tot c (a ++ b) = tot c a + tot c b := by
  induction a with
  | nil => simp [tot]
  | cons x a ih => simp only [List.cons_append, tot, ih]; omega
theorem sumA_append (a b : List Pay) : sumA (a ++ b) = sumA a + sumA b := by
  induction a with
  | nil => simp [sumA]
  | cons x a ih => simp only [List.cons_append, sumA, ih]; omega
theorem take_le {α : Type} {l : List α} {k : Nat} {n : Nat} (h : l.length ≤ n) : (l.take k).length ≤ n := by rw [List.length_take]; omega
theorem sumA_bounds {l : List Pay} {B : Int} (hB : 0 ≤ B) (h : ∀ p ∈ l, 0 ≤ p.a ∧ p.a ≤ B) : 0 ≤ sumA l ∧ sumA l ≤ l.length * B := by
  induction l with
  | nil => simp [sumA]
  | cons x l ih =>
    have h1 := ih fun p hp => h p (by simp [hp])
    have h2 := h x (by simp)
    simp only [sumA, List.length_cons, Int.natCast_add, Int.natCast_one, Int.add_mul, Int.one_mul]
    omega
theorem tot_bounds {l : List Pay} (c : Int) (h : ∀ p ∈ l, 0 ≤ p.a) : 0 ≤ tot c l ∧ tot c l ≤ sumA l := by
  induction l with
  | nil => simp [sumA, tot]
  | cons x l ih =>
    have h1 := ih fun p hp => h p (by simp [hp])
    have h2 := h x (by simp)
    simp only [sumA, tot]
    split <;> omega
theorem sumA_snoc {l : List Pay} {k : Nat} {x : Pay} (h : l[k]? = some x) : sumA (l.take (k + 1)) = sumA (l.take k) + x.a := by
  rw [take_snoc h, sumA_append]; simp [sumA]
theorem tot_snoc {l : List Pay} {k : Nat} {x : Pay} (c : Int) (h : l[k]? = some x) : tot c (l.take (k + 1)) = tot c (l.take k) + if x.c = c then x.a else 0 := by
  rw [take_snoc h, tot_append]; simp [tot]
end Go.Proofs.Ythpjlkpkhlkhbaa

/-
  Walks at the data level, printed by gen.py: what each Go function returns, for data that reads as said. Conditions: those of each theorem.
-/
namespace Go.Proofs.Ythpjlkpkhlkhbaa
open Go.DL
set_option maxRecDepth 100000
set_option linter.unusedVariables false
set_option linter.unusedSimpArgs false
theorem ret_shares (f : Fee) (ht : f.t.length ≤ 140737488355328) : Ret Try.prog 12 [(.agg [(I f.a), (I f.p), (I f.m), (I f.s), (.sl 2 (f.t.map encTrain))])] (.tup [(.sl 2 ((shares f).map encPay)), (I (chk f))]) := by
  have hc := chk_cases f
  refine Ret.of_T Try.func12 (by kernel_rfl) rfl ?_
  refine T_turn [] [0] [] (mk 67 [(0, (.agg [(.dat (I f.a)), (.dat (I f.p)), (.dat (I f.m)), (.dat (I f.s)), (.dat (.sl 2 (f.t.map encTrain)))]))] []) (by kernel_rfl) ?_
  refine T_reg [] [1, 2] [] (mk 67 [(1, (.one (.ref 1 0))), (2, (dt nilS))] [(1, (.var [(.dat (I f.a)), (.dat (I f.p)), (.dat (I f.m)), (.dat (I f.s)), (.dat (.sl 2 (f.t.map encTrain)))]))]) (True ∧ True ∧ True ∧ True ∧ True ∧ True ∧ True) (by kernel_rfl) ⟨trivial, trivial, trivial, trivial, trivial, trivial, trivial⟩ ?_
  refine T_seq ?_
  refine T_reg [{}, { d := some (I (chk f)) }] [1, 2, 4] [] (mk 67 [(1, (.one (.ref 1 0))), (2, (dt nilS)), (4, (dt (I (chk f))))] [(1, (.var [(.dat (I f.a)), (.dat (I f.p)), (.dat (I f.m)), (.dat (I f.s)), (.dat (.sl 2 (f.t.map encTrain)))]))]) (True ∧ True ∧ True ∧ (Ret Try.prog 16 [(.agg [(I f.a), (I f.p), (I f.m), (I f.s), (.sl 2 (f.t.map encTrain))])] (I (chk f))) ∧ True ∧ True ∧ True) (by kernel_rfl) ⟨trivial, trivial, trivial, (ret_chk f ht), trivial, trivial, trivial⟩ ?_
  rcases Bool.eq_false_or_eq_true ((chk f) != 0) with h1 | h1
  · skip
    have g2 : (chk f) ≠ 0 := bne_iff_ne.1 (h1)
    refine T_reg [{}, {}, {}, { g := false }, { g := false }, { g := false }, { g := false }, { d := some (B true) }] [1, 2, 4, 20] [] (mk 67 [(1, (.one (.ref 1 0))), (2, (dt nilS)), (4, (dt (I (chk f)))), (20, (dt (B true)))] [(1, (.var [(.dat (I f.a)), (.dat (I f.p)), (.dat (I f.m)), (.dat (I f.s)), (.dat (.sl 2 (f.t.map encTrain)))]))]) (True ∧ True ∧ True ∧ True ∧ True ∧ True ∧ ((((chk f) != 0) == false) = false) ∧ ((((chk f) != 0) == false) = false) ∧ ((((chk f) != 0) == false) = false) ∧ ((((chk f) != 0) == false) = false) ∧ True ∧ (((chk f) != 0) = true) ∧ True) (by kernel_rfl) ⟨trivial, trivial, trivial, trivial, trivial, trivial, (by rw [show ((chk f) != 0) = true from h1]; rfl), (by rw [show ((chk f) != 0) = true from h1]; rfl), (by rw [show ((chk f) != 0) = true from h1]; rfl), (by rw [show ((chk f) != 0) = true from h1]; rfl), trivial, h1, trivial⟩ ?_
    refine T_cond true (by kernel_rfl) (fun _ => ?_) (fun h => absurd (h.symm.trans rfl) (by decide))
    refine T_reg [] [2, 3] [1] (mk 67 [(2, (dt nilS)), (3, (dt (I (chk f))))] []) (True ∧ True ∧ True ∧ True ∧ True ∧ True ∧ True) (by kernel_rfl) ⟨trivial, trivial, trivial, trivial, trivial, trivial, trivial⟩ ?_
    refine T_ret ?_
    exact ret_here [(dt nilS), (dt (I (chk f)))] (by kernel_rfl) ⟨(.inr ⟨rfl, 2, (by show D.sl _ _ = _; exact congrArg (fun l => D.sl 2 (l.map encPay)) (by first | (exact shares_bad (by omega); done) | (exact shares_nil (by omega); done) | (omega; done) | (rw [pick_end iv (by omega), shares_is (by assumption) (by assumption)]; done) | (exact ((pick_end iv (by omega)).trans (shares_is hc0 hwf)).symm; done) : (shares f) = []))⟩), (.inl rfl), trivial⟩
  · skip
    have g3 : (chk f) = 0 := bne_f (h1)
    refine T_reg [{}, {}, {}, {}, {}, { d := some (I ((f.t.length : Nat) : Int)) }, {}, { d := some (B false) }] [1, 2, 4, 20] [] (mk 67 [(1, (.one (.ref 1 0))), (2, (dt nilS)), (4, (dt (I (chk f)))), (20, (dt (B (((f.t.length : Nat) : Int) == 0))))] [(1, (.var [(.dat (I f.a)), (.dat (I f.p)), (.dat (I f.m)), (.dat (I f.s)), (.dat (.sl 2 (f.t.map encTrain)))]))]) (True ∧ True ∧ True ∧ True ∧ True ∧ True ∧ ((((chk f) != 0) == false) = true) ∧ True ∧ ((((chk f) != 0) == false) = true) ∧ True ∧ ((((chk f) != 0) == false) = true) ∧ (True ∧ D.int .i64 ((f.t.map encTrain).length : Int) = (I ((f.t.length : Nat) : Int))) ∧ ((((chk f) != 0) == false) = true) ∧ True ∧ True ∧ (((chk f) != 0) = false) ∧ True) (by kernel_rfl) ⟨trivial, trivial, trivial, trivial, trivial, trivial, (by rw [show ((chk f) != 0) = false from h1]; rfl), trivial, (by rw [show ((chk f) != 0) = false from h1]; rfl), trivial, (by rw [show ((chk f) != 0) = false from h1]; rfl), ⟨trivial, by rw [List.length_map]⟩, (by rw [show ((chk f) != 0) = false from h1]; rfl), trivial, trivial, h1, trivial⟩ ?_
    refine T_cond (((f.t.length : Nat) : Int) == 0) (by kernel_rfl) (fun h4 => ?_) (fun h4 => ?_)
    · skip
      have g5 : ((f.t.length : Nat) : Int) = 0 := eq_of_beq (h4)
      refine T_reg [] [2, 3] [1] (mk 67 [(2, (dt nilS)), (3, (dt (I (chk f))))] []) (True ∧ True ∧ True ∧ True ∧ True ∧ True ∧ True) (by kernel_rfl) ⟨trivial, trivial, trivial, trivial, trivial, trivial, trivial⟩ ?_
      refine T_ret ?_
      exact ret_here [(dt nilS), (dt (I (chk f)))] (by kernel_rfl) ⟨(.inr ⟨rfl, 2, (by show D.sl _ _ = _; exact congrArg (fun l => D.sl 2 (l.map encPay)) (by first | (exact shares_bad (by omega); done) | (exact shares_nil (by omega); done) | (omega; done) | (rw [pick_end iv (by omega), shares_is (by assumption) (by assumption)]; done) | (exact ((pick_end iv (by omega)).trans (shares_is hc0 hwf)).symm; done) : (shares f) = []))⟩), (.inl rfl), trivial⟩
    · skip
      have g6 : ((f.t.length : Nat) : Int) ≠ 0 := ne_of_beq_false (h4)
      refine T_skip ?_
      refine T_reg [] [1, 2, 5] [] (mk 67 [(1, (.one (.ref 1 0))), (2, (dt nilS)), (5, (dt nilS))] [(1, (.var [(.dat (I f.a)), (.dat (I f.p)), (.dat (I f.m)), (.dat (I f.s)), (.dat (.sl 2 (f.t.map encTrain)))]))]) (True ∧ True ∧ True) (by kernel_rfl) ⟨trivial, trivial, trivial⟩ ?_
      refine T_seq ?_
      refine T_reg [{}, {}, { d := some (I ((f.t.length : Nat) : Int)) }] [1, 2, 5, 23, 24, 25] [] (mk 67 [(1, (.one (.ref 1 0))), (2, (dt nilS)), (5, (dt nilS)), (23, (dt (.sl 2 (f.t.map encTrain)))), (24, (dt (I ((f.t.length : Nat) : Int)))), (25, (dt (I 0)))] [(1, (.var [(.dat (I f.a)), (.dat (I f.p)), (.dat (I f.m)), (.dat (I f.s)), (.dat (.sl 2 (f.t.map encTrain)))]))]) (True ∧ True ∧ True ∧ True ∧ True ∧ (True ∧ D.int .i64 ((f.t.map encTrain).length : Int) = (I ((f.t.length : Nat) : Int))) ∧ True ∧ True ∧ True) (by kernel_rfl) ⟨trivial, trivial, trivial, trivial, trivial, ⟨trivial, by rw [List.length_map]⟩, trivial, trivial, trivial⟩ ?_
      refine T_block ?_
      refine T_ownSlot 5 33 3 1 (mk 67 [(1, (.one (.ref 1 0))), (2, (dt nilS)), (5, (.one (.own 33))), (23, (dt (.sl 2 (f.t.map encTrain)))), (24, (dt (I ((f.t.length : Nat) : Int)))), (25, (dt (I 0)))] [(33, (.row 3 1 (([] : List Int).map encI))), (1, (.var [(.dat (I f.a)), (.dat (I f.p)), (.dat (I f.m)), (.dat (I f.s)), (.dat (.sl 2 (f.t.map encTrain)))]))]) (by kernel_rfl) (by decide) ?_
      refine T_turn [] [1, 2, 5, 23, 24, 25] [] ((fun ((k, w) : Nat × List Int) => (mk 67 [(1, (.one (.ref 1 0))), (2, (dt nilS)), (5, (.one (.own 33))), (23, (dt (.sl 2 (f.t.map encTrain)))), (24, (dt (I ((f.t.length : Nat) : Int)))), (25, (dt (I ((k : Nat) : Int))))] [(33, (.row 3 1 (w.map encI))), (1, (.var [(.dat (I f.a)), (.dat (I f.p)), (.dat (I f.m)), (.dat (I f.s)), (.dat (.sl 2 (f.t.map encTrain)))]))])) (0, ([] : List Int))) (by kernel_rfl) (T_loop (α := Nat × List Int) (fun ((k, w) : Nat × List Int) => (mk 67 [(1, (.one (.ref 1 0))), (2, (dt nilS)), (5, (.one (.own 33))), (23, (dt (.sl 2 (f.t.map encTrain)))), (24, (dt (I ((f.t.length : Nat) : Int)))), (25, (dt (I ((k : Nat) : Int))))] [(33, (.row 3 1 (w.map encI))), (1, (.var [(.dat (I f.a)), (.dat (I f.p)), (.dat (I f.m)), (.dat (I f.s)), (.dat (.sl 2 (f.t.map encTrain)))]))])) (fun ((k, w) : Nat × List Int) => (k ≤ f.t.length) ∧ (w = (f.t.take k).map (·.s)) ∧ True) (fun ((k, w) : Nat × List Int) => f.t.length - k) (0, ([] : List Int)) ⟨Nat.zero_le _, rfl, trivial⟩ ?_)
      rintro ⟨k, w⟩ ⟨ik, iw, _⟩
      have hl40 : f.t.length ≤ 40 := chk_len (by omega)
      have hwl : w.length = k := by rw [iw, List.length_map, List.length_take]; omega
      refine T_reg [] [1, 2, 5, 23, 24, 25, 26] [] (mk 67 [(1, (.one (.ref 1 0))), (2, (dt nilS)), (5, (.one (.own 33))), (23, (dt (.sl 2 (f.t.map encTrain)))), (24, (dt (I ((f.t.length : Nat) : Int)))), (25, (dt (I ((k : Nat) : Int)))), (26, (dt (B (decide (((k : Nat) : Int) < ((f.t.length : Nat) : Int))))))] [(33, (.row 3 1 (w.map encI))), (1, (.var [(.dat (I f.a)), (.dat (I f.p)), (.dat (I f.m)), (.dat (I f.s)), (.dat (.sl 2 (f.t.map encTrain)))]))]) (True ∧ True ∧ True) (by kernel_rfl) ⟨trivial, trivial, trivial⟩ ?_
      refine T_seq ?_
      refine T_cond (decide (((k : Nat) : Int) < ((f.t.length : Nat) : Int))) (by kernel_rfl) (fun h7 => ?_) (fun h7 => ?_)
      · skip
        have g8 : ((k : Nat) : Int) < ((f.t.length : Nat) : Int) := of_decide_eq_true (h7)
        refine T_skip ?_
        refine T_seq ?_
        refine T_block ?_
        have lt9 : k < (f.t).length := by first | omega | (simp only [List.length_set, List.length_map, List.length_append, List.length_cons, List.length_nil] at *; omega)
        obtain ⟨x10, hx11⟩ : ∃ x, (f.t)[k]? = some x := ⟨_, List.getElem?_eq_getElem lt9⟩
        refine T_reg [{ d := some (.agg [(I x10.c), (I x10.s)]) }] [1, 2, 5, 7, 23, 24, 25] [] (mk 67 [(1, (.one (.ref 1 0))), (2, (dt nilS)), (5, (.one (.own 33))), (7, (.one (.ref 7 0))), (23, (dt (.sl 2 (f.t.map encTrain)))), (24, (dt (I ((f.t.length : Nat) : Int)))), (25, (dt (I ((k : Nat) : Int))))] [(7, (.var [(.dat (I x10.c)), (.dat (I x10.s))])), (33, (.row 3 1 (w.map encI))), (1, (.var [(.dat (I f.a)), (.dat (I f.p)), (.dat (I f.m)), (.dat (I f.s)), (.dat (.sl 2 (f.t.map encTrain)))]))]) (True ∧ (0 ≤ ((k : Nat) : Int) ∧ (f.t.map encTrain)[k]? = some (.agg [(I x10.c), (I x10.s)])) ∧ True ∧ True ∧ True ∧ True ∧ True ∧ True ∧ True) (by kernel_rfl) ⟨trivial, ⟨by omega, by rw [List.getElem?_map, hx11]; rfl⟩, trivial, trivial, trivial, trivial, trivial, trivial, trivial⟩ ?_
        refine T_regE [{}, {}, {}, {}, { d := some (.sl 1 ((w ++ [x10.s]).map encI)) }] (mk 67 [(1, (.one (.ref 1 0))), (2, (dt nilS)), (5, (.one (.own 33))), (7, (.one (.ref 7 0))), (23, (dt (.sl 2 (f.t.map encTrain)))), (24, (dt (I ((f.t.length : Nat) : Int)))), (25, (dt (I ((k : Nat) : Int)))), (30, (.one (.ref 7 1))), (31, (dt (I x10.s))), (32, (.one (.own 32))), (33, (.one (.own 33)))] [(33, (.row 3 1 ((w ++ [x10.s]).map encI))), (32, (.row 3 1 ([x10.s].map encI))), (7, (.var [(.dat (I x10.c)), (.dat (I x10.s))])), (1, (.var [(.dat (I f.a)), (.dat (I f.p)), (.dat (I f.m)), (.dat (I f.s)), (.dat (.sl 2 (f.t.map encTrain)))]))]) (True ∧ True ∧ True ∧ True ∧ True ∧ True ∧ True ∧ (dfill (fun i => some (i * 1, 1)) (List.replicate (1 * 1) .junk) [(0, [(.dat (I x10.s))])] = some ((flat ([x10.s].map encI)).map .dat)) ∧ True ∧ (((w.map encI).length + ([x10.s].map encI).length) * 8 ≤ 140737488355328 ∧ cellsOne ([x10.s].map encI) ∧ (w.map encI) ++ [x10.s].map encI = (w ++ [x10.s]).map encI) ∧ True ∧ True ∧ True) (by kernel_rfl) ⟨trivial, trivial, trivial, trivial, trivial, trivial, trivial, rfl, trivial, ⟨by simp only [List.length_map, List.length_nil, List.length_cons]; omega, encI_one _, by simp⟩, trivial, trivial, trivial⟩ ?_
        refine T_regE [{ d := some (I ((k + 1 : Nat) : Int)) }] (mk 67 [(1, (.one (.ref 1 0))), (2, (dt nilS)), (5, (.one (.own 33))), (7, (.one (.ref 7 0))), (23, (dt (.sl 2 (f.t.map encTrain)))), (24, (dt (I ((f.t.length : Nat) : Int)))), (25, (dt (I ((k + 1 : Nat) : Int)))), (30, (.one (.ref 7 1))), (31, (dt (I x10.s))), (32, (.one (.own 32))), (33, (.one (.own 33))), (34, (dt (I ((k + 1 : Nat) : Int))))] [(33, (.row 3 1 ((w ++ [x10.s]).map encI))), (32, (.row 3 1 ([x10.s].map encI))), (7, (.var [(.dat (I x10.c)), (.dat (I x10.s))])), (1, (.var [(.dat (I f.a)), (.dat (I f.p)), (.dat (I f.m)), (.dat (I f.s)), (.dat (.sl 2 (f.t.map encTrain)))]))]) (True ∧ (IntKind.i64.wrap (((k : Nat) : Int) + 1) = ((k + 1 : Nat) : Int)) ∧ True ∧ True ∧ True) (by kernel_rfl) ⟨trivial, (by rw [i64_wrap (by omega) (by omega)]; omega), trivial, trivial, trivial⟩ ?_
        refine Exists.intro (k + 1, (w ++ [x10.s])) ⟨⟨by omega, by rw [iw, take_snoc hx11, List.map_append]; rfl, trivial⟩, by first | omega | (dsimp only; omega), le_turn [] [1, 2, 5, 23, 24, 25] [32, 7] (by kernel_rfl)⟩
      · skip
        have g12 : ¬ (((k : Nat) : Int) < ((f.t.length : Nat) : Int)) := of_decide_eq_false (h7)
        refine T_exit ?_
        have hwf : w = wsOf f := by rw [iw, List.take_of_length_le (by omega)]; rfl
        have hc0 : chk f = 0 := by omega
        have hsp : SplitPre (solid f) w := by rw [hwf]; exact split_pre hc0 (by omega)
        have hPl : (splitW (solid f) (sumL 0 w) w).length = f.t.length := by rw [splitW_length, hwf, wsOf, List.length_map]
        refine T_seq (T_parts ?_)
        refine TL_part 3 [{}, { d := some (I (solid f)) }] (mk 67 [(1, (.one (.ref 1 0))), (2, (dt nilS)), (5, (.one (.own 33))), (23, (dt (.sl 2 (f.t.map encTrain)))), (24, (dt (I ((f.t.length : Nat) : Int)))), (25, (dt (I ((k : Nat) : Int)))), (26, (dt (B (decide (((k : Nat) : Int) < ((f.t.length : Nat) : Int)))))), (36, (.agg [(.dat (I f.a)), (.dat (I f.p)), (.dat (I f.m)), (.dat (I f.s)), (.dat (.sl 2 (f.t.map encTrain)))])), (37, (dt (I (solid f)))), (38, (.one (.own 33)))] [(33, (.row 3 1 (w.map encI))), (1, (.var [(.dat (I f.a)), (.dat (I f.p)), (.dat (I f.m)), (.dat (I f.s)), (.dat (.sl 2 (f.t.map encTrain)))]))]) (True ∧ True ∧ True ∧ (Ret Try.prog 26 [(.agg [(I f.a), (I f.p), (I f.m), (I f.s), (.sl 2 (f.t.map encTrain))])] (I (solid f))) ∧ True ∧ True ∧ True) (by kernel_rfl) ⟨trivial, trivial, trivial, (ret_solid f ht), trivial, trivial, trivial⟩ rfl ?_
        refine TL_turn [33] [1, 2, 5, 23, 24, 25, 26, 36, 37, 38] [] (mk 67 [(1, (.one (.ref 1 0))), (2, (dt nilS)), (5, (dt (.sl 1 (w.map encI)))), (23, (dt (.sl 2 (f.t.map encTrain)))), (24, (dt (I ((f.t.length : Nat) : Int)))), (25, (dt (I ((k : Nat) : Int)))), (26, (dt (B (decide (((k : Nat) : Int) < ((f.t.length : Nat) : Int)))))), (36, (.agg [(.dat (I f.a)), (.dat (I f.p)), (.dat (I f.m)), (.dat (I f.s)), (.dat (.sl 2 (f.t.map encTrain)))])), (37, (dt (I (solid f)))), (38, (dt (.sl 1 (w.map encI))))] [(1, (.var [(.dat (I f.a)), (.dat (I f.p)), (.dat (I f.m)), (.dat (I f.s)), (.dat (.sl 2 (f.t.map encTrain)))]))]) (by kernel_rfl) ?_
        refine TL_part 6 [{ d := some (.tup [(.sl 1 ((splitW (solid f) (sumL 0 w) w).map encI)), (I 0)]) }] (mk 67 [(1, (.one (.ref 1 0))), (2, (dt nilS)), (3, (dt (I 0))), (5, (dt (.sl 1 (w.map encI)))), (8, (dt (.sl 1 ((splitW (solid f) (sumL 0 w) w).map encI)))), (23, (dt (.sl 2 (f.t.map encTrain)))), (24, (dt (I ((f.t.length : Nat) : Int)))), (25, (dt (I ((k : Nat) : Int)))), (26, (dt (B (decide (((k : Nat) : Int) < ((f.t.length : Nat) : Int)))))), (35, (.tup [(false, [(.dat (.sl 1 ((splitW (solid f) (sumL 0 w) w).map encI)))]), (false, [(.dat (I 0))])])), (36, (.agg [(.dat (I f.a)), (.dat (I f.p)), (.dat (I f.m)), (.dat (I f.s)), (.dat (.sl 2 (f.t.map encTrain)))])), (37, (dt (I (solid f)))), (38, (dt (.sl 1 (w.map encI)))), (39, (.tup [(false, [(.dat (.sl 1 ((splitW (solid f) (sumL 0 w) w).map encI)))]), (false, [(.dat (I 0))])])), (40, (dt (.sl 1 ((splitW (solid f) (sumL 0 w) w).map encI)))), (41, (dt (I 0)))] [(1, (.var [(.dat (I f.a)), (.dat (I f.p)), (.dat (I f.m)), (.dat (I f.s)), (.dat (.sl 2 (f.t.map encTrain)))]))]) (True ∧ (Ret Try.prog 25 [(I (solid f)), (.sl 1 (w.map encI))] (.tup [(.sl 1 ((splitW (solid f) (sumL 0 w) w).map encI)), (I 0)])) ∧ True ∧ True ∧ True ∧ True ∧ True ∧ True ∧ True ∧ True ∧ True ∧ True ∧ True) (by kernel_rfl) ⟨trivial, (ret_split _ _ hsp.ha hsp.ha2 hsp.hw hsp.hl hsp.hs), trivial, trivial, trivial, trivial, trivial, trivial, trivial, trivial, trivial, trivial, trivial⟩ rfl ?_
        refine TL_nilQ ?_
        refine T_turn [] [1, 2, 3, 8] [] (mk 67 [(1, (.one (.ref 1 0))), (2, (dt nilS)), (3, (dt (I 0))), (8, (dt (.sl 1 ((splitW (solid f) (sumL 0 w) w).map encI))))] [(1, (.var [(.dat (I f.a)), (.dat (I f.p)), (.dat (I f.m)), (.dat (I f.s)), (.dat (.sl 2 (f.t.map encTrain)))]))]) (by kernel_rfl) ?_
        refine T_seq ?_
        refine T_reg [] [1, 2, 3, 8, 43] [] (mk 67 [(1, (.one (.ref 1 0))), (2, (dt nilS)), (3, (dt (I 0))), (8, (dt (.sl 1 ((splitW (solid f) (sumL 0 w) w).map encI)))), (43, (dt (B false)))] [(1, (.var [(.dat (I f.a)), (.dat (I f.p)), (.dat (I f.m)), (.dat (I f.s)), (.dat (.sl 2 (f.t.map encTrain)))]))]) (True ∧ True ∧ True ∧ True ∧ True) (by kernel_rfl) ⟨trivial, trivial, trivial, trivial, trivial⟩ ?_
        refine T_cond false (by kernel_rfl) (fun h => absurd (h.symm.trans rfl) (by decide)) (fun _ => ?_)
        refine T_skip ?_
        refine T_seq ?_
        refine T_reg [{}, { d := some (I (((splitW (solid f) (sumL 0 w) w).length : Nat) : Int)) }] [1, 2, 45, 46, 47] [] (mk 67 [(1, (.one (.ref 1 0))), (2, (dt nilS)), (45, (dt (.sl 1 ((splitW (solid f) (sumL 0 w) w).map encI)))), (46, (dt (I (((splitW (solid f) (sumL 0 w) w).length : Nat) : Int)))), (47, (dt (I 0)))] [(1, (.var [(.dat (I f.a)), (.dat (I f.p)), (.dat (I f.m)), (.dat (I f.s)), (.dat (.sl 2 (f.t.map encTrain)))]))]) (True ∧ True ∧ True ∧ (True ∧ D.int .i64 (((splitW (solid f) (sumL 0 w) w).map encI).length : Int) = (I (((splitW (solid f) (sumL 0 w) w).length : Nat) : Int))) ∧ True ∧ True ∧ True) (by kernel_rfl) ⟨trivial, trivial, trivial, ⟨trivial, by rw [List.length_map]⟩, trivial, trivial, trivial⟩ ?_
        refine T_block ?_
        refine T_ownSlot 2 64 38 2 (mk 67 [(1, (.one (.ref 1 0))), (2, (.one (.own 64))), (45, (dt (.sl 1 ((splitW (solid f) (sumL 0 w) w).map encI)))), (46, (dt (I (((splitW (solid f) (sumL 0 w) w).length : Nat) : Int)))), (47, (dt (I 0)))] [(64, (.row 38 2 (([] : List Pay).map encPay))), (1, (.var [(.dat (I f.a)), (.dat (I f.p)), (.dat (I f.m)), (.dat (I f.s)), (.dat (.sl 2 (f.t.map encTrain)))]))]) (by kernel_rfl) (by decide) ?_
        refine T_turn [] [1, 2, 45, 46, 47] [] ((fun ((k, o) : Nat × List Pay) => (mk 67 [(1, (.one (.ref 1 0))), (2, (.one (.own 64))), (45, (dt (.sl 1 ((splitW (solid f) (sumL 0 w) w).map encI)))), (46, (dt (I (((splitW (solid f) (sumL 0 w) w).length : Nat) : Int)))), (47, (dt (I ((k : Nat) : Int))))] [(64, (.row 38 2 (o.map encPay))), (1, (.var [(.dat (I f.a)), (.dat (I f.p)), (.dat (I f.m)), (.dat (I f.s)), (.dat (.sl 2 (f.t.map encTrain)))]))])) (0, ([] : List Pay))) (by kernel_rfl) (T_loop (α := Nat × List Pay) (fun ((k, o) : Nat × List Pay) => (mk 67 [(1, (.one (.ref 1 0))), (2, (.one (.own 64))), (45, (dt (.sl 1 ((splitW (solid f) (sumL 0 w) w).map encI)))), (46, (dt (I (((splitW (solid f) (sumL 0 w) w).length : Nat) : Int)))), (47, (dt (I ((k : Nat) : Int))))] [(64, (.row 38 2 (o.map encPay))), (1, (.var [(.dat (I f.a)), (.dat (I f.p)), (.dat (I f.m)), (.dat (I f.s)), (.dat (.sl 2 (f.t.map encTrain)))]))])) (fun ((k, o) : Nat × List Pay) => (k ≤ (splitW (solid f) (sumL 0 w) w).length) ∧ (o.length ≤ k) ∧ (o ++ pickPos (f.t.drop k) ((splitW (solid f) (sumL 0 w) w).drop k) = pickPos f.t (splitW (solid f) (sumL 0 w) w)) ∧ True) (fun ((k, o) : Nat × List Pay) => (splitW (solid f) (sumL 0 w) w).length - k) (0, ([] : List Pay)) ⟨Nat.zero_le _, Nat.le_refl _, rfl, trivial⟩ ?_)
        rintro ⟨k, o⟩ ⟨ik, iol, iv, _⟩
        refine T_reg [] [1, 2, 45, 46, 47, 48] [] (mk 67 [(1, (.one (.ref 1 0))), (2, (.one (.own 64))), (45, (dt (.sl 1 ((splitW (solid f) (sumL 0 w) w).map encI)))), (46, (dt (I (((splitW (solid f) (sumL 0 w) w).length : Nat) : Int)))), (47, (dt (I ((k : Nat) : Int)))), (48, (dt (B (decide (((k : Nat) : Int) < (((splitW (solid f) (sumL 0 w) w).length : Nat) : Int))))))] [(64, (.row 38 2 (o.map encPay))), (1, (.var [(.dat (I f.a)), (.dat (I f.p)), (.dat (I f.m)), (.dat (I f.s)), (.dat (.sl 2 (f.t.map encTrain)))]))]) (True ∧ True ∧ True) (by kernel_rfl) ⟨trivial, trivial, trivial⟩ ?_
        refine T_seq ?_
        refine T_cond (decide (((k : Nat) : Int) < (((splitW (solid f) (sumL 0 w) w).length : Nat) : Int))) (by kernel_rfl) (fun h13 => ?_) (fun h13 => ?_)
        · skip
          have g14 : ((k : Nat) : Int) < (((splitW (solid f) (sumL 0 w) w).length : Nat) : Int) := of_decide_eq_true (h13)
          refine T_skip ?_
          refine T_seq ?_
          refine T_block ?_
          have lt15 : k < ((splitW (solid f) (sumL 0 w) w)).length := by first | omega | (simp only [List.length_set, List.length_map, List.length_append, List.length_cons, List.length_nil] at *; omega)
          obtain ⟨x16, hx17⟩ : ∃ x, ((splitW (solid f) (sumL 0 w) w))[k]? = some x := ⟨_, List.getElem?_eq_getElem lt15⟩
          refine T_reg [{}, { d := some (I x16) }] [1, 2, 9, 10, 45, 46, 47] [] (mk 67 [(1, (.one (.ref 1 0))), (2, (.one (.own 64))), (9, (dt (I ((k : Nat) : Int)))), (10, (dt (I x16))), (45, (dt (.sl 1 ((splitW (solid f) (sumL 0 w) w).map encI)))), (46, (dt (I (((splitW (solid f) (sumL 0 w) w).length : Nat) : Int)))), (47, (dt (I ((k : Nat) : Int))))] [(64, (.row 38 2 (o.map encPay))), (1, (.var [(.dat (I f.a)), (.dat (I f.p)), (.dat (I f.m)), (.dat (I f.s)), (.dat (.sl 2 (f.t.map encTrain)))]))]) (True ∧ True ∧ True ∧ (0 ≤ ((k : Nat) : Int) ∧ ((splitW (solid f) (sumL 0 w) w).map encI)[k]? = some (I x16)) ∧ True ∧ True ∧ True ∧ True ∧ True ∧ True ∧ True) (by kernel_rfl) ⟨trivial, trivial, trivial, ⟨by omega, by rw [List.getElem?_map, hx17]; rfl⟩, trivial, trivial, trivial, trivial, trivial, trivial, trivial⟩ ?_
          refine T_reg [] [1, 2, 9, 10, 45, 46, 47, 53] [] (mk 67 [(1, (.one (.ref 1 0))), (2, (.one (.own 64))), (9, (dt (I ((k : Nat) : Int)))), (10, (dt (I x16))), (45, (dt (.sl 1 ((splitW (solid f) (sumL 0 w) w).map encI)))), (46, (dt (I (((splitW (solid f) (sumL 0 w) w).length : Nat) : Int)))), (47, (dt (I ((k : Nat) : Int)))), (53, (dt (B (decide (x16 > 0)))))] [(64, (.row 38 2 (o.map encPay))), (1, (.var [(.dat (I f.a)), (.dat (I f.p)), (.dat (I f.m)), (.dat (I f.s)), (.dat (.sl 2 (f.t.map encTrain)))]))]) (True ∧ True ∧ True ∧ True ∧ True) (by kernel_rfl) ⟨trivial, trivial, trivial, trivial, trivial⟩ ?_
          refine T_cond (decide (x16 > 0)) (by kernel_rfl) (fun h18 => ?_) (fun h18 => ?_)
          · skip
            have g19 : x16 > 0 := of_decide_eq_true (h18)
            have lt20 : k < (f.t).length := by first | omega | (simp only [List.length_set, List.length_map, List.length_append, List.length_cons, List.length_nil] at *; omega)
            obtain ⟨x21, hx22⟩ : ∃ x, (f.t)[k]? = some x := ⟨_, List.getElem?_eq_getElem lt20⟩
            refine T_regE [{}, {}, {}, {}, { d := some (.agg [(I x21.c), (I x21.s)]) }, {}, {}, {}, {}, {}, { d := some (.sl 2 ((o ++ [(⟨x21.c, x16⟩ : Pay)]).map encPay)) }] (mk 67 [(1, (.one (.ref 1 0))), (2, (.one (.own 64))), (9, (dt (I ((k : Nat) : Int)))), (10, (dt (I x16))), (45, (dt (.sl 1 ((splitW (solid f) (sumL 0 w) w).map encI)))), (46, (dt (I (((splitW (solid f) (sumL 0 w) w).length : Nat) : Int)))), (47, (dt (I ((k : Nat) : Int)))), (53, (dt (B (decide (x16 > 0))))), (55, (.one (.ref 1 4))), (56, (dt (.sl 2 (f.t.map encTrain)))), (57, (dt (I ((k : Nat) : Int)))), (58, (dt (.ptr [(I x21.c), (I x21.s)]))), (59, (dt (.ptr [(I x21.c), (I x21.s)]))), (60, (dt (I x21.c))), (61, (dt (I x16))), (62, (.agg [(.dat (I x21.c)), (.dat (I x16))])), (63, (.one (.own 63))), (64, (.one (.own 64)))] [(64, (.row 38 2 ((o ++ [(⟨x21.c, x16⟩ : Pay)]).map encPay))), (63, (.row 38 2 ([(⟨x21.c, x16⟩ : Pay)].map encPay))), (1, (.var [(.dat (I f.a)), (.dat (I f.p)), (.dat (I f.m)), (.dat (I f.s)), (.dat (.sl 2 (f.t.map encTrain)))]))]) (True ∧ True ∧ True ∧ True ∧ True ∧ True ∧ True ∧ True ∧ True ∧ (0 ≤ ((k : Nat) : Int) ∧ (f.t.map encTrain)[k]? = some (.agg [(I x21.c), (I x21.s)])) ∧ True ∧ True ∧ True ∧ True ∧ True ∧ True ∧ True ∧ True ∧ True ∧ (dfill (fun i => some (i * 2, 2)) (List.replicate (1 * 2) .junk) [(0, [(.dat (I x21.c)), (.dat (I x16))])] = some ((flat ([(⟨x21.c, x16⟩ : Pay)].map encPay)).map .dat)) ∧ True ∧ (((o.map encPay).length + ([(⟨x21.c, x16⟩ : Pay)].map encPay).length) * 16 ≤ 140737488355328 ∧ cellsOne ([(⟨x21.c, x16⟩ : Pay)].map encPay) ∧ (o.map encPay) ++ [(⟨x21.c, x16⟩ : Pay)].map encPay = (o ++ [(⟨x21.c, x16⟩ : Pay)]).map encPay) ∧ True ∧ True ∧ True) (by kernel_rfl) ⟨trivial, trivial, trivial, trivial, trivial, trivial, trivial, trivial, trivial, ⟨by omega, by rw [List.getElem?_map, hx22]; rfl⟩, trivial, trivial, trivial, trivial, trivial, trivial, trivial, trivial, trivial, rfl, trivial, ⟨by simp only [List.length_map, List.length_nil, List.length_cons]; omega, encPay_one _, by simp⟩, trivial, trivial, trivial⟩ ?_
            refine T_regE [{ d := some (I ((k + 1 : Nat) : Int)) }] (mk 67 [(1, (.one (.ref 1 0))), (2, (.one (.own 64))), (9, (dt (I ((k : Nat) : Int)))), (10, (dt (I x16))), (45, (dt (.sl 1 ((splitW (solid f) (sumL 0 w) w).map encI)))), (46, (dt (I (((splitW (solid f) (sumL 0 w) w).length : Nat) : Int)))), (47, (dt (I ((k + 1 : Nat) : Int)))), (53, (dt (B (decide (x16 > 0))))), (55, (.one (.ref 1 4))), (56, (dt (.sl 2 (f.t.map encTrain)))), (57, (dt (I ((k : Nat) : Int)))), (58, (dt (.ptr [(I x21.c), (I x21.s)]))), (59, (dt (.ptr [(I x21.c), (I x21.s)]))), (60, (dt (I x21.c))), (61, (dt (I x16))), (62, (.agg [(.dat (I x21.c)), (.dat (I x16))])), (63, (.one (.own 63))), (64, (.one (.own 64))), (65, (dt (I ((k + 1 : Nat) : Int))))] [(64, (.row 38 2 ((o ++ [(⟨x21.c, x16⟩ : Pay)]).map encPay))), (63, (.row 38 2 ([(⟨x21.c, x16⟩ : Pay)].map encPay))), (1, (.var [(.dat (I f.a)), (.dat (I f.p)), (.dat (I f.m)), (.dat (I f.s)), (.dat (.sl 2 (f.t.map encTrain)))]))]) (True ∧ (IntKind.i64.wrap (((k : Nat) : Int) + 1) = ((k + 1 : Nat) : Int)) ∧ True ∧ True ∧ True) (by kernel_rfl) ⟨trivial, (by rw [i64_wrap (by omega) (by omega)]; omega), trivial, trivial, trivial⟩ ?_
            refine Exists.intro (k + 1, (o ++ [(⟨x21.c, x16⟩ : Pay)])) ⟨⟨by omega, by first | omega | (simp only [List.length_append, List.length_cons, List.length_nil]; omega), by exact pick_yes iv hx22 hx17 (by assumption), trivial⟩, by first | omega | (dsimp only; omega), le_turn [] [1, 2, 45, 46, 47] [63] (by kernel_rfl)⟩
          · skip
            have g23 : ¬ (x16 > 0) := of_decide_eq_false (h18)
            refine T_skip ?_
            refine T_regE [{ d := some (I ((k + 1 : Nat) : Int)) }] (mk 67 [(1, (.one (.ref 1 0))), (2, (.one (.own 64))), (9, (dt (I ((k : Nat) : Int)))), (10, (dt (I x16))), (45, (dt (.sl 1 ((splitW (solid f) (sumL 0 w) w).map encI)))), (46, (dt (I (((splitW (solid f) (sumL 0 w) w).length : Nat) : Int)))), (47, (dt (I ((k + 1 : Nat) : Int)))), (53, (dt (B (decide (x16 > 0))))), (65, (dt (I ((k + 1 : Nat) : Int))))] [(64, (.row 38 2 (o.map encPay))), (1, (.var [(.dat (I f.a)), (.dat (I f.p)), (.dat (I f.m)), (.dat (I f.s)), (.dat (.sl 2 (f.t.map encTrain)))]))]) (True ∧ (IntKind.i64.wrap (((k : Nat) : Int) + 1) = ((k + 1 : Nat) : Int)) ∧ True ∧ True ∧ True) (by kernel_rfl) ⟨trivial, (by rw [i64_wrap (by omega) (by omega)]; omega), trivial, trivial, trivial⟩ ?_
            refine Exists.intro (k + 1, o) ⟨⟨by omega, by first | omega | (simp only [List.length_append, List.length_cons, List.length_nil]; omega), by exact pick_no iv (List.getElem?_eq_getElem (show k < f.t.length by omega)) hx17 (by assumption), trivial⟩, by first | omega | (dsimp only; omega), le_turn [] [1, 2, 45, 46, 47] [] (by kernel_rfl)⟩
        · skip
          have g24 : ¬ (((k : Nat) : Int) < (((splitW (solid f) (sumL 0 w) w).length : Nat) : Int)) := of_decide_eq_false (h13)
          refine T_exit ?_
          refine T_reg [] [2, 3] [1] (mk 67 [(2, (.one (.own 64))), (3, (dt (I 0)))] [(64, (.row 38 2 (o.map encPay)))]) (True ∧ True ∧ True ∧ True ∧ True ∧ True ∧ True) (by kernel_rfl) ⟨trivial, trivial, trivial, trivial, trivial, trivial, trivial⟩ ?_
          refine T_ret ?_
          exact ret_here [(.one (.own 64)), (dt (I 0))] (by kernel_rfl) ⟨(by show D.sl 2 ((shares f).map encPay) = D.sl 2 (o.map encPay); exact congrArg (fun l => D.sl 2 (l.map encPay)) (by first | (exact shares_bad (by omega); done) | (exact shares_nil (by omega); done) | (omega; done) | (rw [pick_end iv (by omega), shares_is (by assumption) (by assumption)]; done) | (exact ((pick_end iv (by omega)).trans (shares_is hc0 hwf)).symm; done) : (shares f) = o)), (.inl (congrArg I (by first | (exact shares_bad (by omega); done) | (exact shares_nil (by omega); done) | (omega; done) | (rw [pick_end iv (by omega), shares_is (by assumption) (by assumption)]; done) | (exact ((pick_end iv (by omega)).trans (shares_is hc0 hwf)).symm; done) : 0 = (chk f)))), trivial⟩

theorem ret_sharesR (f : Fee) (ht : f.t.length ≤ 140737488355328) : Ret Try.prog 13 [(.agg [(I f.a), (I f.p), (I f.m), (I f.s), (.sl 2 (f.t.map encTrain))])] (.tup [(.sl 2 ((shares f).map encPay)), (I (chk f))]) := by
  have hc := chk_cases f
  refine Ret.of_T Try.func13 (by kernel_rfl) rfl ?_
  refine T_turn [] [0] [] (mk 66 [(0, (.agg [(.dat (I f.a)), (.dat (I f.p)), (.dat (I f.m)), (.dat (I f.s)), (.dat (.sl 2 (f.t.map encTrain)))]))] []) (by kernel_rfl) ?_
  refine T_reg [] [1] [] (mk 66 [(1, (.one (.ref 1 0)))] [(1, (.var [(.dat (I f.a)), (.dat (I f.p)), (.dat (I f.m)), (.dat (I f.s)), (.dat (.sl 2 (f.t.map encTrain)))]))]) (True ∧ True ∧ True ∧ True ∧ True ∧ True ∧ True) (by kernel_rfl) ⟨trivial, trivial, trivial, trivial, trivial, trivial, trivial⟩ ?_
  refine T_seq ?_
  refine T_reg [{}, { d := some (I (chk f)) }] [1, 12] [] (mk 66 [(1, (.one (.ref 1 0))), (12, (dt (B ((chk f) != 0))))] [(1, (.var [(.dat (I f.a)), (.dat (I f.p)), (.dat (I f.m)), (.dat (I f.s)), (.dat (.sl 2 (f.t.map encTrain)))]))]) (True ∧ True ∧ True ∧ (Ret Try.prog 17 [(.agg [(I f.a), (I f.p), (I f.m), (I f.s), (.sl 2 (f.t.map encTrain))])] (I (chk f))) ∧ True ∧ True ∧ True) (by kernel_rfl) ⟨trivial, trivial, trivial, (ret_chkR f ht), trivial, trivial, trivial⟩ ?_
  refine T_cond ((chk f) != 0) (by kernel_rfl) (fun h1 => ?_) (fun h1 => ?_)
  · skip
    have g2 : (chk f) ≠ 0 := bne_iff_ne.1 (h1)
    refine T_reg [] [2, 3] [1] (mk 66 [(2, (dt nilS)), (3, (dt (I 380)))] []) (True ∧ True ∧ True ∧ True ∧ True) (by kernel_rfl) ⟨trivial, trivial, trivial, trivial, trivial⟩ ?_
    refine T_ret ?_
    exact ret_here [(dt nilS), (dt (I 380))] (by kernel_rfl) ⟨(.inr ⟨rfl, 2, (by show D.sl _ _ = _; exact congrArg (fun l => D.sl 2 (l.map encPay)) (by first | (exact shares_bad (by omega); done) | (exact shares_nil (by omega); done) | (omega; done) | (exact ((pick_end iv (by omega)).trans (shares_is hc0 hwf)).symm; done) : (shares f) = []))⟩), (.inl (congrArg I (by first | (exact shares_bad (by omega); done) | (exact shares_nil (by omega); done) | (omega; done) | (exact ((pick_end iv (by omega)).trans (shares_is hc0 hwf)).symm; done) : 380 = (chk f)))), trivial⟩
  · skip
    have g3 : (chk f) = 0 := bne_f (h1)
    refine T_skip ?_
    refine T_seq ?_
    refine T_reg [{}, {}, { d := some (I ((f.t.length : Nat) : Int)) }] [1, 16] [] (mk 66 [(1, (.one (.ref 1 0))), (16, (dt (B (((f.t.length : Nat) : Int) == 0))))] [(1, (.var [(.dat (I f.a)), (.dat (I f.p)), (.dat (I f.m)), (.dat (I f.s)), (.dat (.sl 2 (f.t.map encTrain)))]))]) (True ∧ True ∧ True ∧ True ∧ True ∧ (True ∧ D.int .i64 ((f.t.map encTrain).length : Int) = (I ((f.t.length : Nat) : Int))) ∧ True ∧ True ∧ True) (by kernel_rfl) ⟨trivial, trivial, trivial, trivial, trivial, ⟨trivial, by rw [List.length_map]⟩, trivial, trivial, trivial⟩ ?_
    refine T_cond (((f.t.length : Nat) : Int) == 0) (by kernel_rfl) (fun h4 => ?_) (fun h4 => ?_)
    · skip
      have g5 : ((f.t.length : Nat) : Int) = 0 := eq_of_beq (h4)
      refine T_reg [] [2, 3] [1] (mk 66 [(2, (dt nilS)), (3, (dt (I 0)))] []) (True ∧ True ∧ True ∧ True ∧ True) (by kernel_rfl) ⟨trivial, trivial, trivial, trivial, trivial⟩ ?_
      refine T_ret ?_
      exact ret_here [(dt nilS), (dt (I 0))] (by kernel_rfl) ⟨(.inr ⟨rfl, 2, (by show D.sl _ _ = _; exact congrArg (fun l => D.sl 2 (l.map encPay)) (by first | (exact shares_bad (by omega); done) | (exact shares_nil (by omega); done) | (omega; done) | (exact ((pick_end iv (by omega)).trans (shares_is hc0 hwf)).symm; done) : (shares f) = []))⟩), (.inl (congrArg I (by first | (exact shares_bad (by omega); done) | (exact shares_nil (by omega); done) | (omega; done) | (exact ((pick_end iv (by omega)).trans (shares_is hc0 hwf)).symm; done) : 0 = (chk f)))), trivial⟩
    · skip
      have g6 : ((f.t.length : Nat) : Int) ≠ 0 := ne_of_beq_false (h4)
      refine T_skip ?_
      refine T_reg [] [1, 4] [] (mk 66 [(1, (.one (.ref 1 0))), (4, (dt nilS))] [(1, (.var [(.dat (I f.a)), (.dat (I f.p)), (.dat (I f.m)), (.dat (I f.s)), (.dat (.sl 2 (f.t.map encTrain)))]))]) (True ∧ True ∧ True) (by kernel_rfl) ⟨trivial, trivial, trivial⟩ ?_
      refine T_seq ?_
      refine T_reg [] [1, 4, 5] [] (mk 66 [(1, (.one (.ref 1 0))), (4, (dt nilS)), (5, (dt (I 0)))] [(1, (.var [(.dat (I f.a)), (.dat (I f.p)), (.dat (I f.m)), (.dat (I f.s)), (.dat (.sl 2 (f.t.map encTrain)))]))]) (True ∧ True ∧ True) (by kernel_rfl) ⟨trivial, trivial, trivial⟩ ?_
      refine T_block ?_
      refine T_ownSlot 4 32 3 1 (mk 66 [(1, (.one (.ref 1 0))), (4, (.one (.own 32))), (5, (dt (I 0)))] [(32, (.row 3 1 (([] : List Int).map encI))), (1, (.var [(.dat (I f.a)), (.dat (I f.p)), (.dat (I f.m)), (.dat (I f.s)), (.dat (.sl 2 (f.t.map encTrain)))]))]) (by kernel_rfl) (by decide) ?_
      refine T_turn [] [1, 4, 5] [] ((fun ((k, w) : Nat × List Int) => (mk 66 [(1, (.one (.ref 1 0))), (4, (.one (.own 32))), (5, (dt (I ((k : Nat) : Int))))] [(32, (.row 3 1 (w.map encI))), (1, (.var [(.dat (I f.a)), (.dat (I f.p)), (.dat (I f.m)), (.dat (I f.s)), (.dat (.sl 2 (f.t.map encTrain)))]))])) (0, ([] : List Int))) (by kernel_rfl) (T_loop (α := Nat × List Int) (fun ((k, w) : Nat × List Int) => (mk 66 [(1, (.one (.ref 1 0))), (4, (.one (.own 32))), (5, (dt (I ((k : Nat) : Int))))] [(32, (.row 3 1 (w.map encI))), (1, (.var [(.dat (I f.a)), (.dat (I f.p)), (.dat (I f.m)), (.dat (I f.s)), (.dat (.sl 2 (f.t.map encTrain)))]))])) (fun ((k, w) : Nat × List Int) => (k ≤ f.t.length) ∧ (w = (f.t.take k).map (·.s)) ∧ True) (fun ((k, w) : Nat × List Int) => f.t.length - k) (0, ([] : List Int)) ⟨Nat.zero_le _, rfl, trivial⟩ ?_)
      rintro ⟨k, w⟩ ⟨ik, iw, _⟩
      have hl40 : f.t.length ≤ 40 := chk_len (by omega)
      have hwl : w.length = k := by rw [iw, List.length_map, List.length_take]; omega
      refine T_seq ?_
      refine T_reg [{}, {}, {}, { d := some (I ((f.t.length : Nat) : Int)) }] [1, 4, 5, 21] [] (mk 66 [(1, (.one (.ref 1 0))), (4, (.one (.own 32))), (5, (dt (I ((k : Nat) : Int)))), (21, (dt (B (decide (((k : Nat) : Int) < ((f.t.length : Nat) : Int))))))] [(32, (.row 3 1 (w.map encI))), (1, (.var [(.dat (I f.a)), (.dat (I f.p)), (.dat (I f.m)), (.dat (I f.s)), (.dat (.sl 2 (f.t.map encTrain)))]))]) (True ∧ True ∧ True ∧ True ∧ True ∧ True ∧ True ∧ (True ∧ D.int .i64 ((f.t.map encTrain).length : Int) = (I ((f.t.length : Nat) : Int))) ∧ True ∧ True ∧ True) (by kernel_rfl) ⟨trivial, trivial, trivial, trivial, trivial, trivial, trivial, ⟨trivial, by rw [List.length_map]⟩, trivial, trivial, trivial⟩ ?_
      refine T_cond (decide (((k : Nat) : Int) < ((f.t.length : Nat) : Int))) (by kernel_rfl) (fun h7 => ?_) (fun h7 => ?_)
      · skip
        have g8 : ((k : Nat) : Int) < ((f.t.length : Nat) : Int) := of_decide_eq_true (h7)
        refine T_skip ?_
        refine T_seq ?_
        refine T_block ?_
        have lt9 : k < (f.t).length := by first | omega | (simp only [List.length_set, List.length_map, List.length_append, List.length_cons, List.length_nil] at *; omega)
        obtain ⟨x10, hx11⟩ : ∃ x, (f.t)[k]? = some x := ⟨_, List.getElem?_eq_getElem lt9⟩
        refine T_regE [{}, {}, {}, {}, { d := some (.agg [(I x10.c), (I x10.s)]) }, {}, {}, {}, { d := some (.sl 1 ((w ++ [x10.s]).map encI)) }] (mk 66 [(1, (.one (.ref 1 0))), (4, (.one (.own 32))), (5, (dt (I ((k : Nat) : Int)))), (21, (dt (B (decide (((k : Nat) : Int) < ((f.t.length : Nat) : Int)))))), (25, (.one (.ref 1 4))), (26, (dt (.sl 2 (f.t.map encTrain)))), (27, (dt (I ((k : Nat) : Int)))), (28, (dt (.ptr [(I x10.c), (I x10.s)]))), (29, (dt (.ptr [(I x10.s)]))), (30, (dt (I x10.s))), (31, (.one (.own 31))), (32, (.one (.own 32)))] [(32, (.row 3 1 ((w ++ [x10.s]).map encI))), (31, (.row 3 1 ([x10.s].map encI))), (1, (.var [(.dat (I f.a)), (.dat (I f.p)), (.dat (I f.m)), (.dat (I f.s)), (.dat (.sl 2 (f.t.map encTrain)))]))]) (True ∧ True ∧ True ∧ True ∧ True ∧ True ∧ True ∧ True ∧ True ∧ (0 ≤ ((k : Nat) : Int) ∧ (f.t.map encTrain)[k]? = some (.agg [(I x10.c), (I x10.s)])) ∧ True ∧ True ∧ True ∧ True ∧ True ∧ (dfill (fun i => some (i * 1, 1)) (List.replicate (1 * 1) .junk) [(0, [(.dat (I x10.s))])] = some ((flat ([x10.s].map encI)).map .dat)) ∧ True ∧ (((w.map encI).length + ([x10.s].map encI).length) * 8 ≤ 140737488355328 ∧ cellsOne ([x10.s].map encI) ∧ (w.map encI) ++ [x10.s].map encI = (w ++ [x10.s]).map encI) ∧ True ∧ True ∧ True) (by kernel_rfl) ⟨trivial, trivial, trivial, trivial, trivial, trivial, trivial, trivial, trivial, ⟨by omega, by rw [List.getElem?_map, hx11]; rfl⟩, trivial, trivial, trivial, trivial, trivial, rfl, trivial, ⟨by simp only [List.length_map, List.length_nil, List.length_cons]; omega, encI_one _, by simp⟩, trivial, trivial, trivial⟩ ?_
        refine T_regE [{}, { d := some (I ((k + 1 : Nat) : Int)) }] (mk 66 [(1, (.one (.ref 1 0))), (4, (.one (.own 32))), (5, (dt (I ((k + 1 : Nat) : Int)))), (21, (dt (B (decide (((k : Nat) : Int) < ((f.t.length : Nat) : Int)))))), (22, (dt (I ((k : Nat) : Int)))), (23, (dt (I ((k + 1 : Nat) : Int)))), (25, (.one (.ref 1 4))), (26, (dt (.sl 2 (f.t.map encTrain)))), (27, (dt (I ((k : Nat) : Int)))), (28, (dt (.ptr [(I x10.c), (I x10.s)]))), (29, (dt (.ptr [(I x10.s)]))), (30, (dt (I x10.s))), (31, (.one (.own 31))), (32, (.one (.own 32)))] [(32, (.row 3 1 ((w ++ [x10.s]).map encI))), (31, (.row 3 1 ([x10.s].map encI))), (1, (.var [(.dat (I f.a)), (.dat (I f.p)), (.dat (I f.m)), (.dat (I f.s)), (.dat (.sl 2 (f.t.map encTrain)))]))]) (True ∧ True ∧ True ∧ (IntKind.i64.wrap (((k : Nat) : Int) + 1) = ((k + 1 : Nat) : Int)) ∧ True ∧ True ∧ True) (by kernel_rfl) ⟨trivial, trivial, trivial, (by rw [i64_wrap (by omega) (by omega)]; omega), trivial, trivial, trivial⟩ ?_
        refine Exists.intro (k + 1, (w ++ [x10.s])) ⟨⟨by omega, by rw [iw, take_snoc hx11, List.map_append]; rfl, trivial⟩, by first | omega | (dsimp only; omega), le_turn [] [1, 4, 5] [31] (by kernel_rfl)⟩
      · skip
        have g12 : ¬ (((k : Nat) : Int) < ((f.t.length : Nat) : Int)) := of_decide_eq_false (h7)
        refine T_exit ?_
        have hwf : w = wsOf f := by rw [iw, List.take_of_length_le (by omega)]; rfl
        have hc0 : chk f = 0 := by omega
        have hsp : SplitPre (solid f) w := by rw [hwf]; exact split_pre hc0 (by omega)
        have hPl : (splitW (solid f) (sumL 0 w) w).length = f.t.length := by rw [splitW_length, hwf, wsOf, List.length_map]
        refine T_seq (T_parts ?_)
        refine TL_part 3 [{}, { d := some (I (solid f)) }] (mk 66 [(1, (.one (.ref 1 0))), (4, (.one (.own 32))), (5, (dt (I ((k : Nat) : Int)))), (21, (dt (B (decide (((k : Nat) : Int) < ((f.t.length : Nat) : Int)))))), (34, (.agg [(.dat (I f.a)), (.dat (I f.p)), (.dat (I f.m)), (.dat (I f.s)), (.dat (.sl 2 (f.t.map encTrain)))])), (35, (dt (I (solid f)))), (36, (.one (.own 32)))] [(32, (.row 3 1 (w.map encI))), (1, (.var [(.dat (I f.a)), (.dat (I f.p)), (.dat (I f.m)), (.dat (I f.s)), (.dat (.sl 2 (f.t.map encTrain)))]))]) (True ∧ True ∧ True ∧ (Ret Try.prog 28 [(.agg [(I f.a), (I f.p), (I f.m), (I f.s), (.sl 2 (f.t.map encTrain))])] (I (solid f))) ∧ True ∧ True ∧ True) (by kernel_rfl) ⟨trivial, trivial, trivial, (ret_solidR f ht), trivial, trivial, trivial⟩ rfl ?_
        refine TL_turn [32] [1, 4, 5, 21, 34, 35, 36] [] (mk 66 [(1, (.one (.ref 1 0))), (4, (dt (.sl 1 (w.map encI)))), (5, (dt (I ((k : Nat) : Int)))), (21, (dt (B (decide (((k : Nat) : Int) < ((f.t.length : Nat) : Int)))))), (34, (.agg [(.dat (I f.a)), (.dat (I f.p)), (.dat (I f.m)), (.dat (I f.s)), (.dat (.sl 2 (f.t.map encTrain)))])), (35, (dt (I (solid f)))), (36, (dt (.sl 1 (w.map encI))))] [(1, (.var [(.dat (I f.a)), (.dat (I f.p)), (.dat (I f.m)), (.dat (I f.s)), (.dat (.sl 2 (f.t.map encTrain)))]))]) (by kernel_rfl) ?_
        refine TL_part 6 [{ d := some (.tup [(.sl 1 ((splitW (solid f) (sumL 0 w) w).map encI)), (I 0)]) }] (mk 66 [(1, (.one (.ref 1 0))), (4, (dt (.sl 1 (w.map encI)))), (5, (dt (I ((k : Nat) : Int)))), (6, (dt (.sl 1 ((splitW (solid f) (sumL 0 w) w).map encI)))), (7, (dt (I 0))), (21, (dt (B (decide (((k : Nat) : Int) < ((f.t.length : Nat) : Int)))))), (33, (.tup [(false, [(.dat (.sl 1 ((splitW (solid f) (sumL 0 w) w).map encI)))]), (false, [(.dat (I 0))])])), (34, (.agg [(.dat (I f.a)), (.dat (I f.p)), (.dat (I f.m)), (.dat (I f.s)), (.dat (.sl 2 (f.t.map encTrain)))])), (35, (dt (I (solid f)))), (36, (dt (.sl 1 (w.map encI)))), (37, (.tup [(false, [(.dat (.sl 1 ((splitW (solid f) (sumL 0 w) w).map encI)))]), (false, [(.dat (I 0))])])), (38, (dt (.sl 1 ((splitW (solid f) (sumL 0 w) w).map encI)))), (39, (dt (I 0)))] [(1, (.var [(.dat (I f.a)), (.dat (I f.p)), (.dat (I f.m)), (.dat (I f.s)), (.dat (.sl 2 (f.t.map encTrain)))]))]) (True ∧ (Ret Try.prog 27 [(I (solid f)), (.sl 1 (w.map encI))] (.tup [(.sl 1 ((splitW (solid f) (sumL 0 w) w).map encI)), (I 0)])) ∧ True ∧ True ∧ True ∧ True ∧ True ∧ True ∧ True ∧ True ∧ True ∧ True ∧ True) (by kernel_rfl) ⟨trivial, (ret_splitR _ _ hsp.ha hsp.ha2 hsp.hw hsp.hl hsp.hs), trivial, trivial, trivial, trivial, trivial, trivial, trivial, trivial, trivial, trivial, trivial⟩ rfl ?_
        refine TL_nilQ ?_
        refine T_turn [] [1, 6] [] (mk 66 [(1, (.one (.ref 1 0))), (6, (dt (.sl 1 ((splitW (solid f) (sumL 0 w) w).map encI))))] [(1, (.var [(.dat (I f.a)), (.dat (I f.p)), (.dat (I f.m)), (.dat (I f.s)), (.dat (.sl 2 (f.t.map encTrain)))]))]) (by kernel_rfl) ?_
        refine T_reg [] [1, 6, 8] [] (mk 66 [(1, (.one (.ref 1 0))), (6, (dt (.sl 1 ((splitW (solid f) (sumL 0 w) w).map encI)))), (8, (dt nilS))] [(1, (.var [(.dat (I f.a)), (.dat (I f.p)), (.dat (I f.m)), (.dat (I f.s)), (.dat (.sl 2 (f.t.map encTrain)))]))]) (True ∧ True ∧ True) (by kernel_rfl) ⟨trivial, trivial, trivial⟩ ?_
        refine T_seq ?_
        refine T_reg [] [1, 6, 8, 9] [] (mk 66 [(1, (.one (.ref 1 0))), (6, (dt (.sl 1 ((splitW (solid f) (sumL 0 w) w).map encI)))), (8, (dt nilS)), (9, (dt (I 0)))] [(1, (.var [(.dat (I f.a)), (.dat (I f.p)), (.dat (I f.m)), (.dat (I f.s)), (.dat (.sl 2 (f.t.map encTrain)))]))]) (True ∧ True ∧ True) (by kernel_rfl) ⟨trivial, trivial, trivial⟩ ?_
        refine T_block ?_
        refine T_ownSlot 8 64 38 2 (mk 66 [(1, (.one (.ref 1 0))), (6, (dt (.sl 1 ((splitW (solid f) (sumL 0 w) w).map encI)))), (8, (.one (.own 64))), (9, (dt (I 0)))] [(64, (.row 38 2 (([] : List Pay).map encPay))), (1, (.var [(.dat (I f.a)), (.dat (I f.p)), (.dat (I f.m)), (.dat (I f.s)), (.dat (.sl 2 (f.t.map encTrain)))]))]) (by kernel_rfl) (by decide) ?_
        refine T_turn [] [1, 6, 8, 9] [] ((fun ((k, o) : Nat × List Pay) => (mk 66 [(1, (.one (.ref 1 0))), (6, (dt (.sl 1 ((splitW (solid f) (sumL 0 w) w).map encI)))), (8, (.one (.own 64))), (9, (dt (I ((k : Nat) : Int))))] [(64, (.row 38 2 (o.map encPay))), (1, (.var [(.dat (I f.a)), (.dat (I f.p)), (.dat (I f.m)), (.dat (I f.s)), (.dat (.sl 2 (f.t.map encTrain)))]))])) (0, ([] : List Pay))) (by kernel_rfl) (T_loop (α := Nat × List Pay) (fun ((k, o) : Nat × List Pay) => (mk 66 [(1, (.one (.ref 1 0))), (6, (dt (.sl 1 ((splitW (solid f) (sumL 0 w) w).map encI)))), (8, (.one (.own 64))), (9, (dt (I ((k : Nat) : Int))))] [(64, (.row 38 2 (o.map encPay))), (1, (.var [(.dat (I f.a)), (.dat (I f.p)), (.dat (I f.m)), (.dat (I f.s)), (.dat (.sl 2 (f.t.map encTrain)))]))])) (fun ((k, o) : Nat × List Pay) => (k ≤ (splitW (solid f) (sumL 0 w) w).length) ∧ (o.length ≤ k) ∧ (o ++ pickPos (f.t.drop k) ((splitW (solid f) (sumL 0 w) w).drop k) = pickPos f.t (splitW (solid f) (sumL 0 w) w)) ∧ True) (fun ((k, o) : Nat × List Pay) => (splitW (solid f) (sumL 0 w) w).length - k) (0, ([] : List Pay)) ⟨Nat.zero_le _, Nat.le_refl _, rfl, trivial⟩ ?_)
        rintro ⟨k, o⟩ ⟨ik, iol, iv, _⟩
        refine T_seq ?_
        refine T_reg [{}, {}, { d := some (I (((splitW (solid f) (sumL 0 w) w).length : Nat) : Int)) }] [1, 6, 8, 9, 43] [] (mk 66 [(1, (.one (.ref 1 0))), (6, (dt (.sl 1 ((splitW (solid f) (sumL 0 w) w).map encI)))), (8, (.one (.own 64))), (9, (dt (I ((k : Nat) : Int)))), (43, (dt (B (decide (((k : Nat) : Int) < (((splitW (solid f) (sumL 0 w) w).length : Nat) : Int))))))] [(64, (.row 38 2 (o.map encPay))), (1, (.var [(.dat (I f.a)), (.dat (I f.p)), (.dat (I f.m)), (.dat (I f.s)), (.dat (.sl 2 (f.t.map encTrain)))]))]) (True ∧ True ∧ True ∧ True ∧ True ∧ (True ∧ D.int .i64 (((splitW (solid f) (sumL 0 w) w).map encI).length : Int) = (I (((splitW (solid f) (sumL 0 w) w).length : Nat) : Int))) ∧ True ∧ True ∧ True) (by kernel_rfl) ⟨trivial, trivial, trivial, trivial, trivial, ⟨trivial, by rw [List.length_map]⟩, trivial, trivial, trivial⟩ ?_
        refine T_cond (decide (((k : Nat) : Int) < (((splitW (solid f) (sumL 0 w) w).length : Nat) : Int))) (by kernel_rfl) (fun h13 => ?_) (fun h13 => ?_)
        · skip
          have g14 : ((k : Nat) : Int) < (((splitW (solid f) (sumL 0 w) w).length : Nat) : Int) := of_decide_eq_true (h13)
          refine T_skip ?_
          refine T_seq ?_
          refine T_block ?_
          have lt15 : k < ((splitW (solid f) (sumL 0 w) w)).length := by first | omega | (simp only [List.length_set, List.length_map, List.length_append, List.length_cons, List.length_nil] at *; omega)
          obtain ⟨x16, hx17⟩ : ∃ x, ((splitW (solid f) (sumL 0 w) w))[k]? = some x := ⟨_, List.getElem?_eq_getElem lt15⟩
          refine T_reg [{}, {}, { d := some (I x16) }] [1, 6, 8, 9, 50] [] (mk 66 [(1, (.one (.ref 1 0))), (6, (dt (.sl 1 ((splitW (solid f) (sumL 0 w) w).map encI)))), (8, (.one (.own 64))), (9, (dt (I ((k : Nat) : Int)))), (50, (dt (B (decide (x16 > 0)))))] [(64, (.row 38 2 (o.map encPay))), (1, (.var [(.dat (I f.a)), (.dat (I f.p)), (.dat (I f.m)), (.dat (I f.s)), (.dat (.sl 2 (f.t.map encTrain)))]))]) (True ∧ True ∧ True ∧ True ∧ True ∧ (0 ≤ ((k : Nat) : Int) ∧ ((splitW (solid f) (sumL 0 w) w).map encI)[k]? = some (I x16)) ∧ True ∧ True ∧ True ∧ True ∧ True) (by kernel_rfl) ⟨trivial, trivial, trivial, trivial, trivial, ⟨by omega, by rw [List.getElem?_map, hx17]; rfl⟩, trivial, trivial, trivial, trivial, trivial⟩ ?_
          refine T_cond (decide (x16 > 0)) (by kernel_rfl) (fun h18 => ?_) (fun h18 => ?_)
          · skip
            have g19 : x16 > 0 := of_decide_eq_true (h18)
            have lt20 : k < (f.t).length := by first | omega | (simp only [List.length_set, List.length_map, List.length_append, List.length_cons, List.length_nil] at *; omega)
            obtain ⟨x21, hx22⟩ : ∃ x, (f.t)[k]? = some x := ⟨_, List.getElem?_eq_getElem lt20⟩
            refine T_regDE 13 [{}, {}, {}, {}, { d := some (.agg [(I x21.c), (I x21.s)]) }, {}, {}, {}, {}, { d := some (I x16) }, {}, {}, {}, { d := some (.sl 2 ((o ++ [(⟨x21.c, x16⟩ : Pay)]).map encPay)) }] (mk 66 [(1, (.one (.ref 1 0))), (6, (dt (.sl 1 ((splitW (solid f) (sumL 0 w) w).map encI)))), (8, (.one (.own 64))), (9, (dt (I ((k : Nat) : Int)))), (50, (dt (B (decide (x16 > 0))))), (52, (.one (.ref 1 4))), (53, (dt (.sl 2 (f.t.map encTrain)))), (54, (dt (I ((k : Nat) : Int)))), (55, (dt (.ptr [(I x21.c), (I x21.s)]))), (56, (dt (.ptr [(I x21.c), (I x21.s)]))), (57, (dt (I x21.c))), (58, (dt (.sl 1 ((splitW (solid f) (sumL 0 w) w).map encI)))), (59, (dt (I ((k : Nat) : Int)))), (60, (dt (.ptr [(I x16)]))), (61, (dt (I x16))), (62, (.agg [(.dat (I x21.c)), (.dat (I x16))])), (63, (dt (.sl 2 ([(⟨x21.c, x16⟩ : Pay)].map encPay)))), (64, (.one (.own 64)))] [(64, (.row 38 2 ((o ++ [(⟨x21.c, x16⟩ : Pay)]).map encPay))), (1, (.var [(.dat (I f.a)), (.dat (I f.p)), (.dat (I f.m)), (.dat (I f.s)), (.dat (.sl 2 (f.t.map encTrain)))]))]) ((True ∧ True ∧ True ∧ True ∧ True ∧ True ∧ True ∧ True ∧ True ∧ (0 ≤ ((k : Nat) : Int) ∧ (f.t.map encTrain)[k]? = some (.agg [(I x21.c), (I x21.s)])) ∧ True ∧ True ∧ True ∧ True ∧ True ∧ True ∧ True ∧ True ∧ True ∧ (0 ≤ ((k : Nat) : Int) ∧ ((splitW (solid f) (sumL 0 w) w).map encI)[k]? = some (I x16)) ∧ True ∧ True ∧ True ∧ True ∧ True ∧ (dfill (fun i => some (i * 2, 2)) (List.replicate (1 * 2) .junk) [(0, [(.dat (I x21.c)), (.dat (I x16))])] = some ((flat ([(⟨x21.c, x16⟩ : Pay)].map encPay)).map .dat)) ∧ True) ∧ True ∧ (((o.map encPay).length + ([(⟨x21.c, x16⟩ : Pay)].map encPay).length) * 16 ≤ 140737488355328 ∧ cellsOne ([(⟨x21.c, x16⟩ : Pay)].map encPay) ∧ (o.map encPay) ++ [(⟨x21.c, x16⟩ : Pay)].map encPay = (o ++ [(⟨x21.c, x16⟩ : Pay)]).map encPay) ∧ True ∧ True ∧ True) (by kernel_rfl) (by kernel_rfl) (by kernel_rfl) ⟨⟨trivial, trivial, trivial, trivial, trivial, trivial, trivial, trivial, trivial, ⟨by omega, by rw [List.getElem?_map, hx22]; rfl⟩, trivial, trivial, trivial, trivial, trivial, trivial, trivial, trivial, trivial, ⟨by omega, by rw [List.getElem?_map, hx17]; rfl⟩, trivial, trivial, trivial, trivial, trivial, rfl, trivial⟩, ⟨trivial, ⟨by simp only [List.length_map, List.length_nil, List.length_cons]; omega, encPay_one _, by simp⟩, trivial, trivial, trivial⟩⟩ ?_
            refine T_regE [{}, { d := some (I ((k + 1 : Nat) : Int)) }] (mk 66 [(1, (.one (.ref 1 0))), (6, (dt (.sl 1 ((splitW (solid f) (sumL 0 w) w).map encI)))), (8, (.one (.own 64))), (9, (dt (I ((k + 1 : Nat) : Int)))), (44, (dt (I ((k : Nat) : Int)))), (45, (dt (I ((k + 1 : Nat) : Int)))), (50, (dt (B (decide (x16 > 0))))), (52, (.one (.ref 1 4))), (53, (dt (.sl 2 (f.t.map encTrain)))), (54, (dt (I ((k : Nat) : Int)))), (55, (dt (.ptr [(I x21.c), (I x21.s)]))), (56, (dt (.ptr [(I x21.c), (I x21.s)]))), (57, (dt (I x21.c))), (58, (dt (.sl 1 ((splitW (solid f) (sumL 0 w) w).map encI)))), (59, (dt (I ((k : Nat) : Int)))), (60, (dt (.ptr [(I x16)]))), (61, (dt (I x16))), (62, (.agg [(.dat (I x21.c)), (.dat (I x16))])), (63, (dt (.sl 2 ([(⟨x21.c, x16⟩ : Pay)].map encPay)))), (64, (.one (.own 64)))] [(64, (.row 38 2 ((o ++ [(⟨x21.c, x16⟩ : Pay)]).map encPay))), (1, (.var [(.dat (I f.a)), (.dat (I f.p)), (.dat (I f.m)), (.dat (I f.s)), (.dat (.sl 2 (f.t.map encTrain)))]))]) (True ∧ True ∧ True ∧ (IntKind.i64.wrap (((k : Nat) : Int) + 1) = ((k + 1 : Nat) : Int)) ∧ True ∧ True ∧ True) (by kernel_rfl) ⟨trivial, trivial, trivial, (by rw [i64_wrap (by omega) (by omega)]; omega), trivial, trivial, trivial⟩ ?_
            refine Exists.intro (k + 1, (o ++ [(⟨x21.c, x16⟩ : Pay)])) ⟨⟨by omega, by first | omega | (simp only [List.length_append, List.length_cons, List.length_nil]; omega), by exact pick_yes iv hx22 hx17 (by assumption), trivial⟩, by first | omega | (dsimp only; omega), le_turn [] [1, 6, 8, 9] [] (by kernel_rfl)⟩
          · skip
            have g23 : ¬ (x16 > 0) := of_decide_eq_false (h18)
            refine T_skip ?_
            refine T_regE [{}, { d := some (I ((k + 1 : Nat) : Int)) }] (mk 66 [(1, (.one (.ref 1 0))), (6, (dt (.sl 1 ((splitW (solid f) (sumL 0 w) w).map encI)))), (8, (.one (.own 64))), (9, (dt (I ((k + 1 : Nat) : Int)))), (44, (dt (I ((k : Nat) : Int)))), (45, (dt (I ((k + 1 : Nat) : Int)))), (50, (dt (B (decide (x16 > 0)))))] [(64, (.row 38 2 (o.map encPay))), (1, (.var [(.dat (I f.a)), (.dat (I f.p)), (.dat (I f.m)), (.dat (I f.s)), (.dat (.sl 2 (f.t.map encTrain)))]))]) (True ∧ True ∧ True ∧ (IntKind.i64.wrap (((k : Nat) : Int) + 1) = ((k + 1 : Nat) : Int)) ∧ True ∧ True ∧ True) (by kernel_rfl) ⟨trivial, trivial, trivial, (by rw [i64_wrap (by omega) (by omega)]; omega), trivial, trivial, trivial⟩ ?_
            refine Exists.intro (k + 1, o) ⟨⟨by omega, by first | omega | (simp only [List.length_append, List.length_cons, List.length_nil]; omega), by exact pick_no iv (List.getElem?_eq_getElem (show k < f.t.length by omega)) hx17 (by assumption), trivial⟩, by first | omega | (dsimp only; omega), le_turn [] [1, 6, 8, 9] [] (by kernel_rfl)⟩
        · skip
          have g24 : ¬ (((k : Nat) : Int) < (((splitW (solid f) (sumL 0 w) w).length : Nat) : Int)) := of_decide_eq_false (h13)
          refine T_exit ?_
          refine T_reg [] [2, 3] [1] (mk 66 [(2, (.one (.own 64))), (3, (dt (I 0)))] [(64, (.row 38 2 (o.map encPay)))]) (True ∧ True ∧ True ∧ True ∧ True ∧ True ∧ True) (by kernel_rfl) ⟨trivial, trivial, trivial, trivial, trivial, trivial, trivial⟩ ?_
          refine T_ret ?_
          exact ret_here [(.one (.own 64)), (dt (I 0))] (by kernel_rfl) ⟨(by show D.sl 2 ((shares f).map encPay) = D.sl 2 (o.map encPay); exact congrArg (fun l => D.sl 2 (l.map encPay)) (by first | (exact shares_bad (by omega); done) | (exact shares_nil (by omega); done) | (omega; done) | (exact ((pick_end iv (by omega)).trans (shares_is hc0 hwf)).symm; done) : (shares f) = o)), (.inl (congrArg I (by first | (exact shares_bad (by omega); done) | (exact shares_nil (by omega); done) | (omega; done) | (exact ((pick_end iv (by omega)).trans (shares_is hc0 hwf)).symm; done) : 0 = (chk f)))), trivial⟩

end Go.Proofs.Ythpjlkpkhlkhbaa

/-
  Bounds of the payments of a fee, and the steps of the loops that reckon them. Conditions: those of each theorem.
-/
set_option linter.unusedVariables false
set_option linter.unusedSimpArgs false
namespace Go.Proofs.Ythpjlkpkhlkhbaa
open Go.DL
theorem profit_bounds {f : Fee} : 0 ≤ (profit f).1 ∧ (profit f).1 ≤ 1125899906842624 := by
  unfold profit
  split
  · simp
  · split
    · simp
    · rename_i h1 h2
      have hb := solid_bounds f (by omega)
      rw [partM, if_neg (by omega), if_neg (by omega)]
      show 0 ≤ ((f.a - solid f - f.p) * f.s).tdiv 1000 ∧ ((f.a - solid f - f.p) * f.s).tdiv 1000 ≤ 1125899906842624
      have h3 : 0 ≤ (f.a - solid f - f.p) * f.s := Int.mul_nonneg (by omega) (by omega)
      have h4 : (f.a - solid f - f.p) * f.s ≤ (f.a - solid f - f.p) * 1000 := Int.mul_le_mul_of_nonneg_left (by omega) (by omega)
      rw [Int.tdiv_eq_ediv_of_nonneg h3]
      omega
theorem profit_rest {f : Fee} (h : chk f = 0) : (profit f).1 ≤ f.a - solid f ∨ (profit f).1 = 0 := by
  unfold profit
  split
  · exact .inr rfl
  · split
    · exact .inr rfl
    · rename_i h1 h2
      have hb := solid_bounds f (by omega)
      rw [partM, if_neg (by omega), if_neg (by omega)]
      show ((f.a - solid f - f.p) * f.s).tdiv 1000 ≤ f.a - solid f ∨ _
      have h3 : 0 ≤ (f.a - solid f - f.p) * f.s := Int.mul_nonneg (by omega) (by omega)
      have h4 : (f.a - solid f - f.p) * f.s ≤ (f.a - solid f - f.p) * 1000 := Int.mul_le_mul_of_nonneg_left (by omega) (by omega)
      rw [Int.tdiv_eq_ediv_of_nonneg h3]
      omega
theorem profit_none {f : Fee} (h : f.m < 0) : (profit f).1 = 0 := by
  unfold profit
  split
  · rfl
  · rw [if_pos (.inl h)]
theorem profit_err {f : Fee} (h : chk f = 0) : (profit f).2 = 0 := by
  have hb := solid_bounds f h
  unfold profit
  rw [if_neg (by omega)]
  split
  · rfl
  · exact partM_two (by omega) (by omega) (by omega) (by omega)
def SmallL (l : List Pay) (n : Nat) (B : Int) : Prop := l.length ≤ n ∧ ∀ p ∈ l, -B ≤ p.a ∧ p.a ≤ B
theorem abs_sum {B : Int} (hB : 0 ≤ B) : ∀ {l : List Pay}, (∀ p ∈ l, -B ≤ p.a ∧ p.a ≤ B) → -(l.length * B) ≤ sumA l ∧ sumA l ≤ l.length * B
  | [], _ => by simp [sumA]
  | x :: l, h => by
    have h1 := abs_sum hB (l := l) fun p hp => h p (by simp [hp])
    have h2 := h x (by simp)
    simp only [sumA, List.length_cons, Int.natCast_add, Int.natCast_one, Int.add_mul, Int.one_mul]
    omega
theorem abs_tot {B : Int} (hB : 0 ≤ B) (c : Int) : ∀ {l : List Pay}, (∀ p ∈ l, -B ≤ p.a ∧ p.a ≤ B) → -(l.length * B) ≤ tot c l ∧ tot c l ≤ l.length * B
  | [], _ => by simp [tot]
  | x :: l, h => by
    have h1 := abs_tot hB c (l := l) fun p hp => h p (by simp [hp])
    have h2 := h x (by simp)
    simp only [tot, List.length_cons, Int.natCast_add, Int.natCast_one, Int.add_mul, Int.one_mul]
    split <;> omega
theorem small_sum {l : List Pay} {n : Nat} {B : Int} (hB : 0 ≤ B) (h : SmallL l n B) (k : Nat) : -(n * B) ≤ sumA (l.take k) ∧ sumA (l.take k) ≤ n * B := by
  have h1 := abs_sum hB (l := l.take k) fun p hp => h.2 p (List.mem_of_mem_take hp)
  have h2 : ((l.take k).length : Int) * B ≤ n * B := Int.mul_le_mul_of_nonneg_right (by have := take_le (k := k) h.1; omega) hB
  omega
theorem small_tot {l : List Pay} {n : Nat} {B : Int} (hB : 0 ≤ B) (h : SmallL l n B) (c : Int) (k : Nat) : -(n * B) ≤ tot c (l.take k) ∧ tot c (l.take k) ≤ n * B := by
  have h1 := abs_tot hB c (l := l.take k) fun p hp => h.2 p (List.mem_of_mem_take hp)
  have h2 : ((l.take k).length : Int) * B ≤ n * B := Int.mul_le_mul_of_nonneg_right (by have := take_le (k := k) h.1; omega) hB
  omega
def B0 : Int := 1125899906842625
theorem small1 (f : Fee) : SmallL (shares f ++ [(⟨f.m, (profit f).1⟩ : Pay)]) 41 1125899906842625 := by
  refine ⟨by have := shares_len f; simp; omega, fun p hp => ?_⟩
  rcases List.mem_append.1 hp with h | h
  · have := shares_mem h; omega
  · have h2 := profit_bounds (f := f)
    simp at h; subst h; dsimp only; omega
theorem small2 {f : Fee} {s r : Int} (h1 : -56294995342131250 ≤ r) (h2 : r ≤ 56294995342131250) : SmallL (shares f ++ [(⟨f.m, (profit f).1⟩ : Pay)] ++ [(⟨s, r⟩ : Pay)]) 42 56294995342131250 := by
  refine ⟨by have := (small1 f).1; simp at this ⊢; omega, fun p hp => ?_⟩
  rcases List.mem_append.1 hp with h | h
  · have := (small1 f).2 p h; omega
  · simp at h; subst h; exact ⟨h1, h2⟩
theorem fm_snoc {α : Type} (g : Nat → Option α) (c : Nat) : (List.range (c + 1)).filterMap g = (List.range c).filterMap g ++ (match g c with | some x => [x] | none => []) := by
  rw [List.range_succ, List.filterMap_append]
  cases h : g c <;> simp [h]
theorem pay_yes {L : List Pay} {o : List Pay} {c : Nat} {n : Int} {j : Nat} (io : o = (List.range c).filterMap fun c => payOf L (c : Nat)) (hn : n = tot (c : Nat) (L.take j)) (hj : L.length ≤ j) (h : n > 0) :
    o ++ [(⟨((c : Nat) : Int), n⟩ : Pay)] = (List.range (c + 1)).filterMap fun c => payOf L (c : Nat) := by
  rw [List.take_of_length_le hj] at hn
  rw [fm_snoc, io, payOf, if_pos (by omega), hn]
theorem pay_no {L : List Pay} {o : List Pay} {c : Nat} {n : Int} {j : Nat} (io : o = (List.range c).filterMap fun c => payOf L (c : Nat)) (hn : n = tot (c : Nat) (L.take j)) (hj : L.length ≤ j) (h : ¬ n > 0) :
    o = (List.range (c + 1)).filterMap fun c => payOf L (c : Nat) := by
  rw [List.take_of_length_le hj] at hn
  rw [fm_snoc, payOf, if_neg (by omega), List.append_nil, io]
theorem pays_is {f : Fee} {s r : Int} {o : List Pay} {c k : Nat} (h1 : chk f = 0) (h2 : ¬ (s < 0 ∨ s ≥ 192)) (hr : r = f.a - sumA ((shares f ++ [(⟨f.m, (profit f).1⟩ : Pay)]).take k)) (hk : (shares f ++ [(⟨f.m, (profit f).1⟩ : Pay)]).length ≤ k)
    (io : o = (List.range c).filterMap fun c => payOf (shares f ++ [(⟨f.m, (profit f).1⟩ : Pay)] ++ [(⟨s, r⟩ : Pay)]) (c : Nat)) (hc : c = 192) : pays f s = o := by
  rw [List.take_of_length_le hk, sumA_append] at hr
  have e : r = f.a - sumA (shares f) - (profit f).1 := by simp [sumA] at hr; omega
  subst hc
  rw [pays, if_neg (by omega), if_neg h2, payList, allP, io, e]
theorem payList_len (L : List Pay) : (payList L).length ≤ 192 := by
  unfold payList
  have := List.length_filterMap_le (fun c : Nat => payOf L c) (List.range 192)
  simpa using this
theorem pays_len (f : Fee) (s : Int) : (pays f s).length ≤ 192 := by
  unfold pays
  split
  · simp
  · split
    · simp
    · exact payList_len _
end Go.Proofs.Ythpjlkpkhlkhbaa

/-
  The data-level framework, second series, part e: a region that draws its order, walked by the sets of operations that may have run. Generic in the program; no condition.
-/
set_option linter.unusedVariables false
set_option linter.unusedSimpArgs false
namespace Go.DL
open Go.RowKit

/-- The boxes in another order. -/
def DS.order (ids : List Nat) (s : DS) : DS := ⟨s.sl, ids.filterMap fun i => (s.bx.lookup i).map fun b => (i, b)⟩

theorem lookup_of_mem {bx : List (Nat × Box)} (hn : (bx.map (·.1)).Nodup) {i : Nat} {b : Box} (h : (i, b) ∈ bx) : bx.lookup i = some b := by
  induction bx with
  | nil => cases h
  | cons p l ih =>
    obtain ⟨j, c⟩ := p
    rw [List.map_cons, List.nodup_cons] at hn
    rcases List.mem_cons.1 h with e | h'
    · cases e; simp [List.lookup]
    · have hne : i ≠ j := fun e => hn.1 (e ▸ List.mem_map.2 ⟨(i, b), h', rfl⟩)
      rw [List.lookup, show (i == j) = false by simpa using hne]
      exact ih hn.2 h'

theorem nodup_of_map {α β : Type} {f : α → β} : ∀ {l : List α}, (l.map f).Nodup → l.Nodup
  | [], _ => List.nodup_nil
  | x :: l, h => by
    rw [List.map_cons, List.nodup_cons] at h
    exact List.nodup_cons.2 ⟨fun hx => h.1 (List.mem_map.2 ⟨x, hx, rfl⟩), nodup_of_map h.2⟩

theorem order_mem {ids : List Nat} {s : DS} {i : Nat} {b : Box} : (i, b) ∈ (s.order ids).bx ↔ i ∈ ids ∧ s.bx.lookup i = some b := by
  simp only [DS.order, List.mem_filterMap, Option.map_eq_some_iff]
  constructor
  · rintro ⟨j, hj, c, hc, e⟩; cases e; exact ⟨hj, hc⟩
  · rintro ⟨hi, hb⟩; exact ⟨i, hi, b, hb, rfl⟩

theorem DS.le_order (s : DS) (ids : List Nat) (hn : ids.Nodup) (hall : ∀ p ∈ s.bx, p.1 ∈ ids) : s.Le (s.order ids) := by
  intro E M w a h
  have hmem : ∀ p : Nat × Box, p ∈ (s.order ids).bx ↔ p ∈ s.bx := by
    rintro ⟨i, b⟩
    rw [order_mem]
    constructor
    · rintro ⟨_, hb⟩; exact lookup_mem hb
    · intro hp; exact ⟨hall _ hp, lookup_of_mem h.boxes.ids hp⟩
  have hav : ∀ b, Av E.A0 M (s.order ids).bx b ↔ Av E.A0 M s.bx b := fun b => by
    unfold Av
    refine or_congr Iff.rfl ⟨fun ⟨p, hp, hk⟩ => ⟨p, (hmem p).1 hp, hk⟩, fun ⟨p, hp, hk⟩ => ⟨p, (hmem p).2 hp, hk⟩⟩
  have hnd : ((s.order ids).bx.map (·.1)).Nodup := by
    have : (s.order ids).bx.map (·.1) = ids.filterMap fun i => (s.bx.lookup i).map fun _ => i := by
      simp only [DS.order, List.map_filterMap, Option.map_map]; rfl
    rw [this]
    exact List.Pairwise.filterMap (S := fun a b => a ≠ b) _ (by
      intro a a' hne b hb b' hb' e
      simp only [Option.map_eq_some_iff] at hb hb'
      obtain ⟨_, _, rfl⟩ := hb
      obtain ⟨_, _, rfl⟩ := hb'
      exact hne e) hn
  have hndp : (s.order ids).bx.Nodup := nodup_of_map hnd
  have hnds : s.bx.Nodup := nodup_of_map h.boxes.ids
  have hperm : (s.order ids).bx.Perm s.bx := (List.perm_ext_iff_of_nodup hndp hnds).2 hmem
  refine ⟨M, h.defers, h.size, fun t l hl => (h.slots t l hl).mono (Keeps.sub fun b hb => (hav b).1 hb), ?_⟩
  exact {
    ok := fun id b hb => (h.boxes.ok id b ((hmem _).1 hb)).mono (Keeps.sub fun b hb => (hav b).1 hb) (fun _ _ => rfl)
    ids := hnd
    blks := (hperm.filterMap _).nodup_iff.2 h.boxes.blks
    new := fun p hp => h.boxes.new p ((hmem p).1 hp)
    foreign := h.boxes.foreign
    frame := h.boxes.frame
    old := fun p hp => h.boxes.old p ((hmem p).1 hp) }

section
variable {P : Program} {base : Nat} {ops : Array Oper} {Q : DX → DS → Prop} {s : DS}

theorem Oper.wp_mono2 {o : Oper} {a : Act} {w : World} {K K' : Act → World → Prop} {R R' : Exit → Act → World → Prop} (h : ∀ a w, K a w → K' a w) (hR : ∀ e a w, e ≠ .normal → R e a w → R' e a w)
    (hh : o.wp P a w K R) : o.wp P a w K' R' := by
  unfold Oper.wp at *
  generalize (execOp a.eval o).run P w = r at *
  cases r with
  | ok n w' =>
    cases n <;> simp only [Oper.upon] at hh ⊢ <;>
      first
        | exact h _ _ hh
        | exact Calls.mono hh (fun e w'' he => by cases e <;> first | exact h _ _ he | exact hR _ _ _ (by simp) he | exact (fun ⟨a, w, y⟩ => ⟨a, w, hR _ _ _ (by simp) y⟩ : LetsOut R → LetsOut R') he)
        | exact Rows.mono hh (fun _ _ he => h _ _ he)
        | exact hh
  | halt x w' => cases x <;> simp only [Oper.upon] at hh ⊢ <;> first | exact hR _ _ _ (by simp) hh | exact hh

theorem wpAny_mono {R R' : Exit → Act → World → Prop} (h : ∀ e a w, R e a w → R' e a w) : ∀ (n : Nat) (l : Array Bool) (a : Act) (w : World), wpAny P .any ops R n l a w → wpAny P .any ops R' n l a w
  | 0, _, _, _, hh => ⟨hh.1, h _ _ _ hh.2⟩
  | n + 1, l, a, w, hh => ⟨fun e => h _ _ _ (hh.1 e), fun i hi => by
      have := hh.2 i hi
      unfold wpOp at this ⊢
      split
      · rename_i ho; rw [ho] at this; exact wpAny_mono h n _ _ _ this
      · rename_i o ho
        rw [ho] at this
        dsimp only at this
        split
        · rename_i hw
          rw [if_pos hw] at this
          exact this.imp (Oper.wp_mono2 (fun a w => wpAny_mono h n _ a w) fun e a w _ => h e a w) (fun ⟨x, a', w', y⟩ => ⟨x, a', w', h _ _ _ y⟩)
        · rename_i hw
          rw [if_neg hw] at this
          exact wpAny_mono h n _ _ _ this⟩

/-- The region, where the operations of 'listed' have run. -/
def TA (P : Program) (base : Nat) (ops : Array Oper) (Q : DX → DS → Prop) (n : Nat) (listed : Array Bool) (s : DS) : Prop :=
  ∀ (E : Env) (M : BMap) (w : World) (a : Act), E.base = base → St E M w a s → wpAny P .any ops (Lift E Q) n listed a w

def QE (Q : DX → DS → Prop) (s1 : DS) : DX → DS → Prop
  | .normal, s => s.Le s1
  | x, s => Q x s

theorem TA_op {n i : Nat} {o : Oper} {listed : Array Bool} {s1 : DS} (ho : ops[i]? = some o) (hT : TL P base ops [o] (QE Q s1) s) (h : TA P base ops Q n listed s1) (E : Env) (M : BMap) (w : World) (a : Act) (hE : E.base = base) (hst : St E M w a s) :
    wpOp P ops (Lift E Q) i (wpAny P .any ops (Lift E Q) n listed) a w := by
  have key : ∀ a w, Lift E (QE Q s1) .normal a w → wpAny P .any ops (Lift E Q) n listed a w := by
    rintro a w ⟨E', hext, x, s', M', hx, hq, hst'⟩
    cases x <;> simp only [XRel] at hx
    obtain ⟨M'', h2⟩ := hq E' M' w a hst'
    exact wpAny_mono (fun _ _ _ => Lift.ext hext) _ _ _ _ (h E' M'' w a (hext.base.trans hE) h2)
  have h1 := hT E M w a hE hst
  unfold wpOp
  rw [ho]
  dsimp only
  unfold wpList at h1
  split
  · rename_i hw
    rw [if_pos hw] at h1
    rcases h1 with h1 | h1
    · refine .inl (Oper.wp_mono2 key ?_ h1)
      rintro e a w hne ⟨E', hext, x, s', M', hx, hq, hst'⟩
      refine ⟨E', hext, x, s', M', hx, ?_, hst'⟩
      cases x with
      | normal => cases e <;> simp_all [XRel]
      | _ => exact hq
    · exact absurd h1.2 no_out
  · rename_i hw
    rw [if_neg hw] at h1
    exact key _ _ h1

/-- Whether every operation that may come next is among those that are listed. -/
def bitsA (n : Nat) (m : Nat) : Array Bool := ((List.range n).map fun i => m.testBit i).toArray

def Edges (P : Program) (base : Nat) (ops : Array Oper) (Q : DX → DS → Prop) (st : Nat → DS) : List (Nat × Nat) → Prop
  | [] => True
  | (m, i) :: l => (match ops[i]? with | some o => TL P base ops [o] (QE Q (st (m + 2 ^ i))) (st m) | none => False) ∧ Edges P base ops Q st l

theorem Edges.get {st : Nat → DS} : ∀ {l : List (Nat × Nat)}, Edges P base ops Q st l → ∀ {m i : Nat}, (m, i) ∈ l → ∃ o, ops[i]? = some o ∧ TL P base ops [o] (QE Q (st (m + 2 ^ i))) (st m)
  | [], _, _, _, h => by cases h
  | (m', i') :: l, h, m, i, hm => by
    rcases List.mem_cons.1 hm with e | hm
    · cases e
      have h1 := h.1
      split at h1
      · exact ⟨_, by assumption, h1⟩
      · exact h1.elim
    · exact Edges.get h.2 hm

/-- What is to be reckoned of a region: from each set that is met, each operation that may come next leads to a set that is met. -/
def dagOk (ops : Array Oper) (edges : List (Nat × Nat)) (sets : List Nat) : Bool :=
  sets.contains 0 && sets.all fun m =>
    ((Region.ready .any ops (bitsA ops.size m)).all fun i => edges.contains (m, i) && !m.testBit i && sets.contains (m + 2 ^ i) && (bitsA ops.size m).setIfInBounds i true == bitsA ops.size (m + 2 ^ i)) &&
    (!(Region.ready .any ops (bitsA ops.size m)).isEmpty || m + 1 == 2 ^ ops.size)

theorem T_any {id : Nat} {l : List Oper} (edges : List (Nat × Nat)) (sets : List Nat) (st : Nat → DS) (hm : P.follows .mixedOrders = true) (hok : dagOk l.toArray edges sets = true) (h0 : s.Le (st 0))
    (hE : Edges P base l.toArray Q st edges) (hend : Q .normal (st (2 ^ l.length - 1))) : T P base (.region id l.toArray true) Q s := by
  intro E M w a hbase hst
  refine wp_region_any hm ?_
  unfold dagOk at hok
  rw [Bool.and_eq_true, List.all_eq_true] at hok
  obtain ⟨h00, hall⟩ := hok
  have full : ∀ m, m + 1 = 2 ^ l.length → Q .normal (st m) := fun m e => by
    have : m = 2 ^ l.length - 1 := by omega
    rw [this]; exact hend
  have key : ∀ n m, m ∈ sets → todo l.length (bitsA l.length m) = n → TA P base l.toArray Q n (bitsA l.length m) (st m) := by
    intro n
    induction n with
    | zero =>
      intro m hm ht E M w a hb hst
      have hr : Region.ready .any l.toArray (bitsA l.length m) = [] := by
        rw [List.eq_nil_iff_forall_not_mem]
        intro i hi
        obtain ⟨hun, o, hoi, _⟩ := mem_ready.1 hi
        have hlt : i < l.length := by simpa using (Array.getElem?_eq_some_iff.1 hoi).1
        have := todo_zero ht i hlt
        have h2 := getD_both hun
        rw [this] at h2; cases h2
      have h1 := hall m hm
      simp only [List.size_toArray, hr, Bool.and_eq_true, List.isEmpty_nil, Bool.not_true, Bool.false_or, beq_iff_eq] at h1
      exact ⟨hr, E, EnvExt.refl E, .normal, st m, M, trivial, full m h1.2, hst⟩
    | succ n ih =>
      intro m hm ht E M w a hb hst
      have h1 := hall m hm
      rw [Bool.and_eq_true, List.all_eq_true] at h1
      simp only [List.size_toArray] at h1
      refine ⟨fun hr => ?_, fun i hi => ?_⟩
      · have h2 := h1.2
        simp only [hr, List.isEmpty_nil, Bool.not_true, Bool.false_or, beq_iff_eq] at h2
        exact ⟨E, EnvExt.refl E, .normal, st m, M, trivial, full m h2, hst⟩
      · have h2 := h1.1 i hi
        simp only [Bool.and_eq_true, beq_iff_eq, List.contains_iff_mem, Bool.not_eq_true'] at h2
        obtain ⟨⟨⟨h3, h3b⟩, h4⟩, h5⟩ := h2
        obtain ⟨o, ho, hT⟩ := hE.get h3
        obtain ⟨hun, o', hoi, _⟩ := mem_ready.1 hi
        have hlt : i < l.length := by simpa using (Array.getElem?_eq_some_iff.1 hoi).1
        rw [h5]
        refine TA_op ho hT (ih _ h4 ?_) E M w a hb hst
        have h6 := todo_set (n := l.length) (i := i) hlt (by simp [bitsA]; exact hlt) (getD_both hun)
        rw [h5] at h6
        omega
  have e0 : bitsA l.length 0 = Array.replicate l.length false := by
    simp only [bitsA, Nat.zero_testBit]
    apply Array.ext
    · simp
    · intro i h1 h2; simp
  have t0 : todo l.length (Array.replicate l.length false) = l.length := by
    unfold todo
    rw [List.filter_eq_self.2]
    · exact List.length_range
    · intro i hi
      simp only [Array.getD_eq_getD_getElem?, Array.getElem?_replicate]
      split <;> rfl
  obtain ⟨M', h1⟩ := h0 E M w a hst
  have hw : Below w.heap.size w { w with drawn := w.drawn + 1 } := ⟨rfl, rfl, rfl, Nat.le_refl _, fun _ _ => rfl⟩
  have := key l.length 0 (by simpa using h00) (by rw [e0, t0]) E M' { w with drawn := w.drawn + 1 } a hbase (h1.below hw)
  rw [e0] at this
  simpa using this

theorem Edges.cons {l : List Oper} {st : Nat → DS} {m i : Nat} {rest : List (Nat × Nat)} (hi : Nat.blt i l.length = true) (hT : TL P base l.toArray ((l.drop i).take 1) (QE Q (st (m + 2 ^ i))) (st m)) (hr : Edges P base l.toArray Q st rest) : Edges P base l.toArray Q st ((m, i) :: rest) := by
  have hlt : i < l.length := by simpa [Nat.blt_eq] using hi
  refine ⟨?_, hr⟩
  have e : l.toArray[i]? = some l[i] := by simp [hlt]
  rw [e]
  rw [List.drop_eq_getElem_cons hlt] at hT
  exact hT

theorem QE_end {s1 : DS} (h : s.Le s1) : QE Q s1 .normal s := h
theorem QE_turn {s1 : DS} (live dead ids : List Nat) (h : (s.prune live dead).order ids = s1) (hn : decide ids.Nodup = true) (hall : ((s.prune live dead).bx.all fun p => ids.contains p.1) = true) : QE Q s1 .normal s :=
  (DS.le_prune s live dead).trans ((DS.le_order _ ids (of_decide_eq_true hn) (fun p hp => by
    have := List.all_eq_true.1 hall p hp
    simpa using this)).trans (DS.le_of_eq h))
end
end Go.DL
namespace Go.DL
section
variable {P : Program} {base : Nat} {Q : DX → DS → Prop} {s : DS}
theorem le_order {s1 : DS} (live ids : List Nat) (h : (s.prune live []).order ids = s1) (hn : decide ids.Nodup = true) (hall : ((s.prune live []).bx.all fun p => ids.contains p.1) = true) : s.Le s1 :=
  QE_turn (Q := fun _ _ => True) live [] ids h hn hall
theorem T_anyS {id : Nat} {l : List Oper} {y : Code} (edges : List (Nat × Nat)) (sets : List Nat) (st : Nat → DS) (hm : P.follows .mixedOrders = true) (hok : dagOk l.toArray edges sets = true) (h0 : s.Le (st 0))
    (hE : Edges P base l.toArray (DX.andThen (T P base y Q) Q) st edges) (hend : T P base y Q (st (2 ^ l.length - 1))) : T P base (.seq (.region id l.toArray true) y) Q s :=
  T_seq (T_any edges sets st hm hok h0 hE hend)
end
end Go.DL

/-
  Walks at the data level, printed by gen.py: what each Go function returns, for data that reads as said. Conditions: those of each theorem.
-/
namespace Go.Proofs.Ythpjlkpkhlkhbaa
open Go.DL
set_option maxRecDepth 100000
set_option linter.unusedVariables false
set_option linter.unusedSimpArgs false
theorem ret_paysR (f : Fee) (s : Int) (ht : f.t.length ≤ 140737488355328) : Ret Try.prog 20 [(.agg [(I f.a), (I f.p), (I f.m), (I f.s), (.sl 2 (f.t.map encTrain))]), (I s)] (.tup [(.sl 2 ((pays f s).map encPay)), (I (paysE f s))]) := by
  have hc := chk_cases f
  have hsl := shares_len f
  have hpb := profit_bounds (f := f)
  refine Ret.of_T Try.func20 (by kernel_rfl) rfl ?_
  refine T_turn [] [0, 1] [] (mk 99 [(0, (.agg [(.dat (I f.a)), (.dat (I f.p)), (.dat (I f.m)), (.dat (I f.s)), (.dat (.sl 2 (f.t.map encTrain)))])), (1, (dt (I s)))] []) (by kernel_rfl) ?_
  refine T_reg [] [1, 2] [] (mk 99 [(1, (dt (I s))), (2, (.one (.ref 2 0)))] [(2, (.var [(.dat (I f.a)), (.dat (I f.p)), (.dat (I f.m)), (.dat (I f.s)), (.dat (.sl 2 (f.t.map encTrain)))]))]) (True ∧ True ∧ True ∧ True ∧ True ∧ True ∧ True) (by kernel_rfl) ⟨trivial, trivial, trivial, trivial, trivial, trivial, trivial⟩ ?_
  refine T_seq ?_
  refine T_reg [{}, { d := some (I (chk f)) }] [1, 2, 19] [] (mk 99 [(1, (dt (I s))), (2, (.one (.ref 2 0))), (19, (dt (B ((chk f) != 0))))] [(2, (.var [(.dat (I f.a)), (.dat (I f.p)), (.dat (I f.m)), (.dat (I f.s)), (.dat (.sl 2 (f.t.map encTrain)))]))]) (True ∧ True ∧ True ∧ (Ret Try.prog 17 [(.agg [(I f.a), (I f.p), (I f.m), (I f.s), (.sl 2 (f.t.map encTrain))])] (I (chk f))) ∧ True ∧ True ∧ True) (by kernel_rfl) ⟨trivial, trivial, trivial, (ret_chkR f ht), trivial, trivial, trivial⟩ ?_
  refine T_cond ((chk f) != 0) (by kernel_rfl) (fun h1 => ?_) (fun h1 => ?_)
  · skip
    have g2 : (chk f) ≠ 0 := bne_iff_ne.1 (h1)
    refine T_reg [] [4, 5] [2] (mk 99 [(4, (dt nilS)), (5, (dt (I 380)))] []) (True ∧ True ∧ True ∧ True ∧ True) (by kernel_rfl) ⟨trivial, trivial, trivial, trivial, trivial⟩ ?_
    refine T_ret ?_
    exact ret_here [(dt nilS), (dt (I 380))] (by kernel_rfl) ⟨(.inr ⟨rfl, 2, (by show D.sl _ _ = _; exact congrArg (fun l => D.sl 2 (l.map encPay)) (by first | (rw [pays, if_pos (by omega)]; done) | (rw [pays, if_neg (by omega), if_pos (by omega)]; done) | (rw [paysE, if_pos (by omega)]; omega; done) | (rw [paysE, if_neg (by omega), if_pos (by omega)]; done) | (rw [paysE, if_neg (by omega), if_neg (by omega)]; done) | (exact pays_is (by omega) (by omega) ir (by omega) io (by omega); done) : (pays f s) = []))⟩), (.inl (congrArg I (by first | (rw [pays, if_pos (by omega)]; done) | (rw [pays, if_neg (by omega), if_pos (by omega)]; done) | (rw [paysE, if_pos (by omega)]; omega; done) | (rw [paysE, if_neg (by omega), if_pos (by omega)]; done) | (rw [paysE, if_neg (by omega), if_neg (by omega)]; done) | (exact pays_is (by omega) (by omega) ir (by omega) io (by omega); done) : 380 = (paysE f s)))), trivial⟩
  · skip
    have g3 : (chk f) = 0 := bne_f (h1)
    refine T_skip ?_
    refine T_seq ?_
    rcases Bool.eq_false_or_eq_true (decide (s < 0)) with h4 | h4
    · skip
      have g5 : s < 0 := of_decide_eq_true (h4)
      refine T_reg [{}, {}, {}, { g := false }, { g := false }, { d := some (B true) }] [1, 2, 25] [] (mk 99 [(1, (dt (I s))), (2, (.one (.ref 2 0))), (25, (dt (B true)))] [(2, (.var [(.dat (I f.a)), (.dat (I f.p)), (.dat (I f.m)), (.dat (I f.s)), (.dat (.sl 2 (f.t.map encTrain)))]))]) (True ∧ True ∧ True ∧ True ∧ True ∧ True ∧ (((decide (s < 0)) == false) = false) ∧ (((decide (s < 0)) == false) = false) ∧ True ∧ ((decide (s < 0)) = true) ∧ True) (by kernel_rfl) ⟨trivial, trivial, trivial, trivial, trivial, trivial, (by rw [show (decide (s < 0)) = true from h4]; rfl), (by rw [show (decide (s < 0)) = true from h4]; rfl), trivial, h4, trivial⟩ ?_
      refine T_cond true (by kernel_rfl) (fun _ => ?_) (fun h => absurd (h.symm.trans rfl) (by decide))
      refine T_reg [] [4, 5] [2] (mk 99 [(4, (dt nilS)), (5, (dt (I 1)))] []) (True ∧ True ∧ True ∧ True ∧ True) (by kernel_rfl) ⟨trivial, trivial, trivial, trivial, trivial⟩ ?_
      refine T_ret ?_
      exact ret_here [(dt nilS), (dt (I 1))] (by kernel_rfl) ⟨(.inr ⟨rfl, 2, (by show D.sl _ _ = _; exact congrArg (fun l => D.sl 2 (l.map encPay)) (by first | (rw [pays, if_pos (by omega)]; done) | (rw [pays, if_neg (by omega), if_pos (by omega)]; done) | (rw [paysE, if_pos (by omega)]; omega; done) | (rw [paysE, if_neg (by omega), if_pos (by omega)]; done) | (rw [paysE, if_neg (by omega), if_neg (by omega)]; done) | (exact pays_is (by omega) (by omega) ir (by omega) io (by omega); done) : (pays f s) = []))⟩), (.inl (congrArg I (by first | (rw [pays, if_pos (by omega)]; done) | (rw [pays, if_neg (by omega), if_pos (by omega)]; done) | (rw [paysE, if_pos (by omega)]; omega; done) | (rw [paysE, if_neg (by omega), if_pos (by omega)]; done) | (rw [paysE, if_neg (by omega), if_neg (by omega)]; done) | (exact pays_is (by omega) (by omega) ir (by omega) io (by omega); done) : 1 = (paysE f s)))), trivial⟩
    · skip
      have g6 : ¬ (s < 0) := of_decide_eq_false (h4)
      refine T_reg [{}, {}, {}, {}, {}, { d := some (B false) }] [1, 2, 25] [] (mk 99 [(1, (dt (I s))), (2, (.one (.ref 2 0))), (25, (dt (B (decide (s ≥ 192)))))] [(2, (.var [(.dat (I f.a)), (.dat (I f.p)), (.dat (I f.m)), (.dat (I f.s)), (.dat (.sl 2 (f.t.map encTrain)))]))]) (True ∧ True ∧ True ∧ True ∧ True ∧ True ∧ (((decide (s < 0)) == false) = true) ∧ True ∧ (((decide (s < 0)) == false) = true) ∧ True ∧ True ∧ ((decide (s < 0)) = false) ∧ True) (by kernel_rfl) ⟨trivial, trivial, trivial, trivial, trivial, trivial, (by rw [show (decide (s < 0)) = false from h4]; rfl), trivial, (by rw [show (decide (s < 0)) = false from h4]; rfl), trivial, trivial, h4, trivial⟩ ?_
      refine T_cond (decide (s ≥ 192)) (by kernel_rfl) (fun h7 => ?_) (fun h7 => ?_)
      · skip
        have g8 : s ≥ 192 := of_decide_eq_true (h7)
        refine T_reg [] [4, 5] [2] (mk 99 [(4, (dt nilS)), (5, (dt (I 1)))] []) (True ∧ True ∧ True ∧ True ∧ True) (by kernel_rfl) ⟨trivial, trivial, trivial, trivial, trivial⟩ ?_
        refine T_ret ?_
        exact ret_here [(dt nilS), (dt (I 1))] (by kernel_rfl) ⟨(.inr ⟨rfl, 2, (by show D.sl _ _ = _; exact congrArg (fun l => D.sl 2 (l.map encPay)) (by first | (rw [pays, if_pos (by omega)]; done) | (rw [pays, if_neg (by omega), if_pos (by omega)]; done) | (rw [paysE, if_pos (by omega)]; omega; done) | (rw [paysE, if_neg (by omega), if_pos (by omega)]; done) | (rw [paysE, if_neg (by omega), if_neg (by omega)]; done) | (exact pays_is (by omega) (by omega) ir (by omega) io (by omega); done) : (pays f s) = []))⟩), (.inl (congrArg I (by first | (rw [pays, if_pos (by omega)]; done) | (rw [pays, if_neg (by omega), if_pos (by omega)]; done) | (rw [paysE, if_pos (by omega)]; omega; done) | (rw [paysE, if_neg (by omega), if_pos (by omega)]; done) | (rw [paysE, if_neg (by omega), if_neg (by omega)]; done) | (exact pays_is (by omega) (by omega) ir (by omega) io (by omega); done) : 1 = (paysE f s)))), trivial⟩
      · skip
        have g9 : ¬ (s ≥ 192) := of_decide_eq_false (h7)
        refine T_skip ?_
        refine T_reg [{}, { d := some (.tup [(.sl 2 ((shares f).map encPay)), (I (chk f))]) }] [1, 2, 6] [] (mk 99 [(1, (dt (I s))), (2, (.one (.ref 2 0))), (6, (dt (.sl 2 ((shares f).map encPay))))] [(2, (.var [(.dat (I f.a)), (.dat (I f.p)), (.dat (I f.m)), (.dat (I f.s)), (.dat (.sl 2 (f.t.map encTrain)))]))]) (True ∧ True ∧ True ∧ (Ret Try.prog 13 [(.agg [(I f.a), (I f.p), (I f.m), (I f.s), (.sl 2 (f.t.map encTrain))])] (.tup [(.sl 2 ((shares f).map encPay)), (I (chk f))])) ∧ True ∧ True ∧ True ∧ True ∧ True ∧ True ∧ True ∧ True ∧ True ∧ True ∧ True) (by kernel_rfl) ⟨trivial, trivial, trivial, (ret_sharesR f ht), trivial, trivial, trivial, trivial, trivial, trivial, trivial, trivial, trivial, trivial, trivial⟩ ?_
        refine T_reg [{}, { d := some (.tup [(I (profit f).1), (I (profit f).2)]) }] [1, 2, 6, 8] [] (mk 99 [(1, (dt (I s))), (2, (.one (.ref 2 0))), (6, (dt (.sl 2 ((shares f).map encPay)))), (8, (dt (I (profit f).1)))] [(2, (.var [(.dat (I f.a)), (.dat (I f.p)), (.dat (I f.m)), (.dat (I f.s)), (.dat (.sl 2 (f.t.map encTrain)))]))]) (True ∧ True ∧ True ∧ (Ret Try.prog 15 [(.agg [(I f.a), (I f.p), (I f.m), (I f.s), (.sl 2 (f.t.map encTrain))])] (.tup [(I (profit f).1), (I (profit f).2)])) ∧ True ∧ True ∧ True ∧ True ∧ True ∧ True ∧ True ∧ True ∧ True ∧ True ∧ True) (by kernel_rfl) ⟨trivial, trivial, trivial, (ret_profitR f ht), trivial, trivial, trivial, trivial, trivial, trivial, trivial, trivial, trivial, trivial, trivial⟩ ?_
        refine T_anyS [(0, 0), (0, 1), (0, 3), (0, 5), (1, 1), (1, 3), (1, 5), (2, 0), (2, 3), (2, 5), (8, 0), (8, 1), (8, 4), (8, 5), (32, 0), (32, 1), (32, 3), (3, 2), (3, 3), (3, 5), (9, 1), (9, 4), (9, 5), (33, 1), (33, 3), (10, 0), (10, 4), (10, 5), (34, 0), (34, 3), (24, 0), (24, 1), (24, 5), (40, 0), (40, 1), (40, 4), (7, 3), (7, 5), (11, 2), (11, 4), (11, 5), (35, 2), (35, 3), (25, 1), (25, 5), (41, 1), (41, 4), (26, 0), (26, 5), (42, 0), (42, 4), (56, 0), (56, 1), (56, 6), (15, 4), (15, 5), (39, 3), (27, 2), (27, 5), (43, 2), (43, 4), (57, 1), (57, 6), (58, 0), (58, 6), (120, 0), (120, 1), (120, 7), (31, 5), (47, 4), (59, 2), (59, 6), (121, 1), (121, 7), (122, 0), (122, 7), (248, 0), (248, 1), (63, 6), (123, 2), (123, 7), (249, 1), (250, 0), (127, 7), (251, 2), (255, 8), (511, 9)] [0, 1, 2, 8, 32, 3, 9, 10, 24, 33, 34, 40, 7, 11, 25, 26, 35, 41, 42, 56, 15, 27, 39, 43, 57, 58, 120, 31, 47, 59, 121, 122, 248, 63, 123, 249, 250, 127, 251, 255, 511, 1023] (fun m => match m with | 0 => (mk 99 [(1, (dt (I s))), (2, (.one (.ref 2 0))), (6, (dt (.sl 2 ((shares f).map encPay)))), (8, (dt (I (profit f).1)))] [(2, (.var [(.dat (I f.a)), (.dat (I f.p)), (.dat (I f.m)), (.dat (I f.s)), (.dat (.sl 2 (f.t.map encTrain)))]))]) | 1 => (mk 99 [(1, (dt (I s))), (2, (.one (.ref 2 0))), (6, (dt (.sl 2 ((shares f).map encPay)))), (8, (dt (I (profit f).1))), (36, (.one (.own 36)))] [(2, (.var [(.dat (I f.a)), (.dat (I f.p)), (.dat (I f.m)), (.dat (I f.s)), (.dat (.sl 2 (f.t.map encTrain)))])), (36, (.row 38 2 (([] : List Pay).map encPay)))]) | 2 => (mk 99 [(1, (dt (I s))), (2, (.one (.ref 2 0))), (6, (dt (.sl 2 ((shares f).map encPay)))), (8, (dt (I (profit f).1))), (37, (dt (.sl 2 ((shares f).map encPay))))] [(2, (.var [(.dat (I f.a)), (.dat (I f.p)), (.dat (I f.m)), (.dat (I f.s)), (.dat (.sl 2 (f.t.map encTrain)))]))]) | 8 => (mk 99 [(1, (dt (I s))), (2, (.one (.ref 2 0))), (6, (dt (.sl 2 ((shares f).map encPay)))), (8, (dt (I (profit f).1))), (39, (.one (.ref 2 2)))] [(2, (.var [(.dat (I f.a)), (.dat (I f.p)), (.dat (I f.m)), (.dat (I f.s)), (.dat (.sl 2 (f.t.map encTrain)))]))]) | 32 => (mk 99 [(1, (dt (I s))), (2, (.one (.ref 2 0))), (6, (dt (.sl 2 ((shares f).map encPay)))), (8, (dt (I (profit f).1))), (41, (dt (I (profit f).1)))] [(2, (.var [(.dat (I f.a)), (.dat (I f.p)), (.dat (I f.m)), (.dat (I f.s)), (.dat (.sl 2 (f.t.map encTrain)))]))]) | 3 => (mk 99 [(1, (dt (I s))), (2, (.one (.ref 2 0))), (6, (dt (.sl 2 ((shares f).map encPay)))), (8, (dt (I (profit f).1))), (36, (.one (.own 36))), (37, (dt (.sl 2 ((shares f).map encPay))))] [(2, (.var [(.dat (I f.a)), (.dat (I f.p)), (.dat (I f.m)), (.dat (I f.s)), (.dat (.sl 2 (f.t.map encTrain)))])), (36, (.row 38 2 (([] : List Pay).map encPay)))]) | 9 => (mk 99 [(1, (dt (I s))), (2, (.one (.ref 2 0))), (6, (dt (.sl 2 ((shares f).map encPay)))), (8, (dt (I (profit f).1))), (36, (.one (.own 36))), (39, (.one (.ref 2 2)))] [(2, (.var [(.dat (I f.a)), (.dat (I f.p)), (.dat (I f.m)), (.dat (I f.s)), (.dat (.sl 2 (f.t.map encTrain)))])), (36, (.row 38 2 (([] : List Pay).map encPay)))]) | 10 => (mk 99 [(1, (dt (I s))), (2, (.one (.ref 2 0))), (6, (dt (.sl 2 ((shares f).map encPay)))), (8, (dt (I (profit f).1))), (37, (dt (.sl 2 ((shares f).map encPay)))), (39, (.one (.ref 2 2)))] [(2, (.var [(.dat (I f.a)), (.dat (I f.p)), (.dat (I f.m)), (.dat (I f.s)), (.dat (.sl 2 (f.t.map encTrain)))]))]) | 24 => (mk 99 [(1, (dt (I s))), (2, (.one (.ref 2 0))), (6, (dt (.sl 2 ((shares f).map encPay)))), (8, (dt (I (profit f).1))), (39, (.one (.ref 2 2))), (40, (dt (I f.m)))] [(2, (.var [(.dat (I f.a)), (.dat (I f.p)), (.dat (I f.m)), (.dat (I f.s)), (.dat (.sl 2 (f.t.map encTrain)))]))]) | 33 => (mk 99 [(1, (dt (I s))), (2, (.one (.ref 2 0))), (6, (dt (.sl 2 ((shares f).map encPay)))), (8, (dt (I (profit f).1))), (36, (.one (.own 36))), (41, (dt (I (profit f).1)))] [(2, (.var [(.dat (I f.a)), (.dat (I f.p)), (.dat (I f.m)), (.dat (I f.s)), (.dat (.sl 2 (f.t.map encTrain)))])), (36, (.row 38 2 (([] : List Pay).map encPay)))]) | 34 => (mk 99 [(1, (dt (I s))), (2, (.one (.ref 2 0))), (6, (dt (.sl 2 ((shares f).map encPay)))), (8, (dt (I (profit f).1))), (37, (dt (.sl 2 ((shares f).map encPay)))), (41, (dt (I (profit f).1)))] [(2, (.var [(.dat (I f.a)), (.dat (I f.p)), (.dat (I f.m)), (.dat (I f.s)), (.dat (.sl 2 (f.t.map encTrain)))]))]) | 40 => (mk 99 [(1, (dt (I s))), (2, (.one (.ref 2 0))), (6, (dt (.sl 2 ((shares f).map encPay)))), (8, (dt (I (profit f).1))), (39, (.one (.ref 2 2))), (41, (dt (I (profit f).1)))] [(2, (.var [(.dat (I f.a)), (.dat (I f.p)), (.dat (I f.m)), (.dat (I f.s)), (.dat (.sl 2 (f.t.map encTrain)))]))]) | 7 => (mk 99 [(1, (dt (I s))), (2, (.one (.ref 2 0))), (6, (dt (.sl 2 ((shares f).map encPay)))), (8, (dt (I (profit f).1))), (37, (dt (.sl 2 ((shares f).map encPay)))), (38, (.one (.own 38)))] [(2, (.var [(.dat (I f.a)), (.dat (I f.p)), (.dat (I f.m)), (.dat (I f.s)), (.dat (.sl 2 (f.t.map encTrain)))])), (38, (.row 38 2 ((shares f).map encPay)))]) | 11 => (mk 99 [(1, (dt (I s))), (2, (.one (.ref 2 0))), (6, (dt (.sl 2 ((shares f).map encPay)))), (8, (dt (I (profit f).1))), (36, (.one (.own 36))), (37, (dt (.sl 2 ((shares f).map encPay)))), (39, (.one (.ref 2 2)))] [(2, (.var [(.dat (I f.a)), (.dat (I f.p)), (.dat (I f.m)), (.dat (I f.s)), (.dat (.sl 2 (f.t.map encTrain)))])), (36, (.row 38 2 (([] : List Pay).map encPay)))]) | 25 => (mk 99 [(1, (dt (I s))), (2, (.one (.ref 2 0))), (6, (dt (.sl 2 ((shares f).map encPay)))), (8, (dt (I (profit f).1))), (36, (.one (.own 36))), (39, (.one (.ref 2 2))), (40, (dt (I f.m)))] [(2, (.var [(.dat (I f.a)), (.dat (I f.p)), (.dat (I f.m)), (.dat (I f.s)), (.dat (.sl 2 (f.t.map encTrain)))])), (36, (.row 38 2 (([] : List Pay).map encPay)))]) | 26 => (mk 99 [(1, (dt (I s))), (2, (.one (.ref 2 0))), (6, (dt (.sl 2 ((shares f).map encPay)))), (8, (dt (I (profit f).1))), (37, (dt (.sl 2 ((shares f).map encPay)))), (39, (.one (.ref 2 2))), (40, (dt (I f.m)))] [(2, (.var [(.dat (I f.a)), (.dat (I f.p)), (.dat (I f.m)), (.dat (I f.s)), (.dat (.sl 2 (f.t.map encTrain)))]))]) | 35 => (mk 99 [(1, (dt (I s))), (2, (.one (.ref 2 0))), (6, (dt (.sl 2 ((shares f).map encPay)))), (8, (dt (I (profit f).1))), (36, (.one (.own 36))), (37, (dt (.sl 2 ((shares f).map encPay)))), (41, (dt (I (profit f).1)))] [(2, (.var [(.dat (I f.a)), (.dat (I f.p)), (.dat (I f.m)), (.dat (I f.s)), (.dat (.sl 2 (f.t.map encTrain)))])), (36, (.row 38 2 (([] : List Pay).map encPay)))]) | 41 => (mk 99 [(1, (dt (I s))), (2, (.one (.ref 2 0))), (6, (dt (.sl 2 ((shares f).map encPay)))), (8, (dt (I (profit f).1))), (36, (.one (.own 36))), (39, (.one (.ref 2 2))), (41, (dt (I (profit f).1)))] [(2, (.var [(.dat (I f.a)), (.dat (I f.p)), (.dat (I f.m)), (.dat (I f.s)), (.dat (.sl 2 (f.t.map encTrain)))])), (36, (.row 38 2 (([] : List Pay).map encPay)))]) | 42 => (mk 99 [(1, (dt (I s))), (2, (.one (.ref 2 0))), (6, (dt (.sl 2 ((shares f).map encPay)))), (8, (dt (I (profit f).1))), (37, (dt (.sl 2 ((shares f).map encPay)))), (39, (.one (.ref 2 2))), (41, (dt (I (profit f).1)))] [(2, (.var [(.dat (I f.a)), (.dat (I f.p)), (.dat (I f.m)), (.dat (I f.s)), (.dat (.sl 2 (f.t.map encTrain)))]))]) | 56 => (mk 99 [(1, (dt (I s))), (2, (.one (.ref 2 0))), (6, (dt (.sl 2 ((shares f).map encPay)))), (8, (dt (I (profit f).1))), (39, (.one (.ref 2 2))), (40, (dt (I f.m))), (41, (dt (I (profit f).1)))] [(2, (.var [(.dat (I f.a)), (.dat (I f.p)), (.dat (I f.m)), (.dat (I f.s)), (.dat (.sl 2 (f.t.map encTrain)))]))]) | 15 => (mk 99 [(1, (dt (I s))), (2, (.one (.ref 2 0))), (6, (dt (.sl 2 ((shares f).map encPay)))), (8, (dt (I (profit f).1))), (37, (dt (.sl 2 ((shares f).map encPay)))), (38, (.one (.own 38))), (39, (.one (.ref 2 2)))] [(2, (.var [(.dat (I f.a)), (.dat (I f.p)), (.dat (I f.m)), (.dat (I f.s)), (.dat (.sl 2 (f.t.map encTrain)))])), (38, (.row 38 2 ((shares f).map encPay)))]) | 27 => (mk 99 [(1, (dt (I s))), (2, (.one (.ref 2 0))), (6, (dt (.sl 2 ((shares f).map encPay)))), (8, (dt (I (profit f).1))), (36, (.one (.own 36))), (37, (dt (.sl 2 ((shares f).map encPay)))), (39, (.one (.ref 2 2))), (40, (dt (I f.m)))] [(2, (.var [(.dat (I f.a)), (.dat (I f.p)), (.dat (I f.m)), (.dat (I f.s)), (.dat (.sl 2 (f.t.map encTrain)))])), (36, (.row 38 2 (([] : List Pay).map encPay)))]) | 39 => (mk 99 [(1, (dt (I s))), (2, (.one (.ref 2 0))), (6, (dt (.sl 2 ((shares f).map encPay)))), (8, (dt (I (profit f).1))), (37, (dt (.sl 2 ((shares f).map encPay)))), (38, (.one (.own 38))), (41, (dt (I (profit f).1)))] [(2, (.var [(.dat (I f.a)), (.dat (I f.p)), (.dat (I f.m)), (.dat (I f.s)), (.dat (.sl 2 (f.t.map encTrain)))])), (38, (.row 38 2 ((shares f).map encPay)))]) | 43 => (mk 99 [(1, (dt (I s))), (2, (.one (.ref 2 0))), (6, (dt (.sl 2 ((shares f).map encPay)))), (8, (dt (I (profit f).1))), (36, (.one (.own 36))), (37, (dt (.sl 2 ((shares f).map encPay)))), (39, (.one (.ref 2 2))), (41, (dt (I (profit f).1)))] [(2, (.var [(.dat (I f.a)), (.dat (I f.p)), (.dat (I f.m)), (.dat (I f.s)), (.dat (.sl 2 (f.t.map encTrain)))])), (36, (.row 38 2 (([] : List Pay).map encPay)))]) | 57 => (mk 99 [(1, (dt (I s))), (2, (.one (.ref 2 0))), (6, (dt (.sl 2 ((shares f).map encPay)))), (8, (dt (I (profit f).1))), (36, (.one (.own 36))), (39, (.one (.ref 2 2))), (40, (dt (I f.m))), (41, (dt (I (profit f).1)))] [(2, (.var [(.dat (I f.a)), (.dat (I f.p)), (.dat (I f.m)), (.dat (I f.s)), (.dat (.sl 2 (f.t.map encTrain)))])), (36, (.row 38 2 (([] : List Pay).map encPay)))]) | 58 => (mk 99 [(1, (dt (I s))), (2, (.one (.ref 2 0))), (6, (dt (.sl 2 ((shares f).map encPay)))), (8, (dt (I (profit f).1))), (37, (dt (.sl 2 ((shares f).map encPay)))), (39, (.one (.ref 2 2))), (40, (dt (I f.m))), (41, (dt (I (profit f).1)))] [(2, (.var [(.dat (I f.a)), (.dat (I f.p)), (.dat (I f.m)), (.dat (I f.s)), (.dat (.sl 2 (f.t.map encTrain)))]))]) | 120 => (mk 99 [(1, (dt (I s))), (2, (.one (.ref 2 0))), (6, (dt (.sl 2 ((shares f).map encPay)))), (8, (dt (I (profit f).1))), (39, (.one (.ref 2 2))), (40, (dt (I f.m))), (41, (dt (I (profit f).1))), (42, (.agg [(.dat (I f.m)), (.dat (I (profit f).1))]))] [(2, (.var [(.dat (I f.a)), (.dat (I f.p)), (.dat (I f.m)), (.dat (I f.s)), (.dat (.sl 2 (f.t.map encTrain)))]))]) | 31 => (mk 99 [(1, (dt (I s))), (2, (.one (.ref 2 0))), (6, (dt (.sl 2 ((shares f).map encPay)))), (8, (dt (I (profit f).1))), (37, (dt (.sl 2 ((shares f).map encPay)))), (38, (.one (.own 38))), (39, (.one (.ref 2 2))), (40, (dt (I f.m)))] [(2, (.var [(.dat (I f.a)), (.dat (I f.p)), (.dat (I f.m)), (.dat (I f.s)), (.dat (.sl 2 (f.t.map encTrain)))])), (38, (.row 38 2 ((shares f).map encPay)))]) | 47 => (mk 99 [(1, (dt (I s))), (2, (.one (.ref 2 0))), (6, (dt (.sl 2 ((shares f).map encPay)))), (8, (dt (I (profit f).1))), (37, (dt (.sl 2 ((shares f).map encPay)))), (38, (.one (.own 38))), (39, (.one (.ref 2 2))), (41, (dt (I (profit f).1)))] [(2, (.var [(.dat (I f.a)), (.dat (I f.p)), (.dat (I f.m)), (.dat (I f.s)), (.dat (.sl 2 (f.t.map encTrain)))])), (38, (.row 38 2 ((shares f).map encPay)))]) | 59 => (mk 99 [(1, (dt (I s))), (2, (.one (.ref 2 0))), (6, (dt (.sl 2 ((shares f).map encPay)))), (8, (dt (I (profit f).1))), (36, (.one (.own 36))), (37, (dt (.sl 2 ((shares f).map encPay)))), (39, (.one (.ref 2 2))), (40, (dt (I f.m))), (41, (dt (I (profit f).1)))] [(2, (.var [(.dat (I f.a)), (.dat (I f.p)), (.dat (I f.m)), (.dat (I f.s)), (.dat (.sl 2 (f.t.map encTrain)))])), (36, (.row 38 2 (([] : List Pay).map encPay)))]) | 121 => (mk 99 [(1, (dt (I s))), (2, (.one (.ref 2 0))), (6, (dt (.sl 2 ((shares f).map encPay)))), (8, (dt (I (profit f).1))), (36, (.one (.own 36))), (39, (.one (.ref 2 2))), (40, (dt (I f.m))), (41, (dt (I (profit f).1))), (42, (.agg [(.dat (I f.m)), (.dat (I (profit f).1))]))] [(2, (.var [(.dat (I f.a)), (.dat (I f.p)), (.dat (I f.m)), (.dat (I f.s)), (.dat (.sl 2 (f.t.map encTrain)))])), (36, (.row 38 2 (([] : List Pay).map encPay)))]) | 122 => (mk 99 [(1, (dt (I s))), (2, (.one (.ref 2 0))), (6, (dt (.sl 2 ((shares f).map encPay)))), (8, (dt (I (profit f).1))), (37, (dt (.sl 2 ((shares f).map encPay)))), (39, (.one (.ref 2 2))), (40, (dt (I f.m))), (41, (dt (I (profit f).1))), (42, (.agg [(.dat (I f.m)), (.dat (I (profit f).1))]))] [(2, (.var [(.dat (I f.a)), (.dat (I f.p)), (.dat (I f.m)), (.dat (I f.s)), (.dat (.sl 2 (f.t.map encTrain)))]))]) | 248 => (mk 99 [(1, (dt (I s))), (2, (.one (.ref 2 0))), (6, (dt (.sl 2 ((shares f).map encPay)))), (8, (dt (I (profit f).1))), (39, (.one (.ref 2 2))), (40, (dt (I f.m))), (41, (dt (I (profit f).1))), (42, (.agg [(.dat (I f.m)), (.dat (I (profit f).1))])), (43, (.one (.own 43)))] [(2, (.var [(.dat (I f.a)), (.dat (I f.p)), (.dat (I f.m)), (.dat (I f.s)), (.dat (.sl 2 (f.t.map encTrain)))])), (43, (.row 38 2 ([(⟨f.m, (profit f).1⟩ : Pay)].map encPay)))]) | 63 => (mk 99 [(1, (dt (I s))), (2, (.one (.ref 2 0))), (6, (dt (.sl 2 ((shares f).map encPay)))), (8, (dt (I (profit f).1))), (37, (dt (.sl 2 ((shares f).map encPay)))), (38, (.one (.own 38))), (39, (.one (.ref 2 2))), (40, (dt (I f.m))), (41, (dt (I (profit f).1)))] [(2, (.var [(.dat (I f.a)), (.dat (I f.p)), (.dat (I f.m)), (.dat (I f.s)), (.dat (.sl 2 (f.t.map encTrain)))])), (38, (.row 38 2 ((shares f).map encPay)))]) | 123 => (mk 99 [(1, (dt (I s))), (2, (.one (.ref 2 0))), (6, (dt (.sl 2 ((shares f).map encPay)))), (8, (dt (I (profit f).1))), (36, (.one (.own 36))), (37, (dt (.sl 2 ((shares f).map encPay)))), (39, (.one (.ref 2 2))), (40, (dt (I f.m))), (41, (dt (I (profit f).1))), (42, (.agg [(.dat (I f.m)), (.dat (I (profit f).1))]))] [(2, (.var [(.dat (I f.a)), (.dat (I f.p)), (.dat (I f.m)), (.dat (I f.s)), (.dat (.sl 2 (f.t.map encTrain)))])), (36, (.row 38 2 (([] : List Pay).map encPay)))]) | 249 => (mk 99 [(1, (dt (I s))), (2, (.one (.ref 2 0))), (6, (dt (.sl 2 ((shares f).map encPay)))), (8, (dt (I (profit f).1))), (36, (.one (.own 36))), (39, (.one (.ref 2 2))), (40, (dt (I f.m))), (41, (dt (I (profit f).1))), (42, (.agg [(.dat (I f.m)), (.dat (I (profit f).1))])), (43, (.one (.own 43)))] [(2, (.var [(.dat (I f.a)), (.dat (I f.p)), (.dat (I f.m)), (.dat (I f.s)), (.dat (.sl 2 (f.t.map encTrain)))])), (36, (.row 38 2 (([] : List Pay).map encPay))), (43, (.row 38 2 ([(⟨f.m, (profit f).1⟩ : Pay)].map encPay)))]) | 250 => (mk 99 [(1, (dt (I s))), (2, (.one (.ref 2 0))), (6, (dt (.sl 2 ((shares f).map encPay)))), (8, (dt (I (profit f).1))), (37, (dt (.sl 2 ((shares f).map encPay)))), (39, (.one (.ref 2 2))), (40, (dt (I f.m))), (41, (dt (I (profit f).1))), (42, (.agg [(.dat (I f.m)), (.dat (I (profit f).1))])), (43, (.one (.own 43)))] [(2, (.var [(.dat (I f.a)), (.dat (I f.p)), (.dat (I f.m)), (.dat (I f.s)), (.dat (.sl 2 (f.t.map encTrain)))])), (43, (.row 38 2 ([(⟨f.m, (profit f).1⟩ : Pay)].map encPay)))]) | 127 => (mk 99 [(1, (dt (I s))), (2, (.one (.ref 2 0))), (6, (dt (.sl 2 ((shares f).map encPay)))), (8, (dt (I (profit f).1))), (37, (dt (.sl 2 ((shares f).map encPay)))), (38, (.one (.own 38))), (39, (.one (.ref 2 2))), (40, (dt (I f.m))), (41, (dt (I (profit f).1))), (42, (.agg [(.dat (I f.m)), (.dat (I (profit f).1))]))] [(2, (.var [(.dat (I f.a)), (.dat (I f.p)), (.dat (I f.m)), (.dat (I f.s)), (.dat (.sl 2 (f.t.map encTrain)))])), (38, (.row 38 2 ((shares f).map encPay)))]) | 251 => (mk 99 [(1, (dt (I s))), (2, (.one (.ref 2 0))), (6, (dt (.sl 2 ((shares f).map encPay)))), (8, (dt (I (profit f).1))), (36, (.one (.own 36))), (37, (dt (.sl 2 ((shares f).map encPay)))), (39, (.one (.ref 2 2))), (40, (dt (I f.m))), (41, (dt (I (profit f).1))), (42, (.agg [(.dat (I f.m)), (.dat (I (profit f).1))])), (43, (.one (.own 43)))] [(2, (.var [(.dat (I f.a)), (.dat (I f.p)), (.dat (I f.m)), (.dat (I f.s)), (.dat (.sl 2 (f.t.map encTrain)))])), (36, (.row 38 2 (([] : List Pay).map encPay))), (43, (.row 38 2 ([(⟨f.m, (profit f).1⟩ : Pay)].map encPay)))]) | 255 => (mk 99 [(1, (dt (I s))), (2, (.one (.ref 2 0))), (6, (dt (.sl 2 ((shares f).map encPay)))), (8, (dt (I (profit f).1))), (37, (dt (.sl 2 ((shares f).map encPay)))), (38, (.one (.own 38))), (39, (.one (.ref 2 2))), (40, (dt (I f.m))), (41, (dt (I (profit f).1))), (42, (.agg [(.dat (I f.m)), (.dat (I (profit f).1))])), (43, (.one (.own 43)))] [(2, (.var [(.dat (I f.a)), (.dat (I f.p)), (.dat (I f.m)), (.dat (I f.s)), (.dat (.sl 2 (f.t.map encTrain)))])), (38, (.row 38 2 ((shares f).map encPay))), (43, (.row 38 2 ([(⟨f.m, (profit f).1⟩ : Pay)].map encPay)))]) | 511 => (mk 99 [(1, (dt (I s))), (2, (.one (.ref 2 0))), (6, (dt (.sl 2 ((shares f).map encPay)))), (8, (dt (I (profit f).1))), (37, (dt (.sl 2 ((shares f).map encPay)))), (39, (.one (.ref 2 2))), (40, (dt (I f.m))), (41, (dt (I (profit f).1))), (42, (.agg [(.dat (I f.m)), (.dat (I (profit f).1))])), (43, (.one (.own 43))), (44, (.one (.own 44)))] [(2, (.var [(.dat (I f.a)), (.dat (I f.p)), (.dat (I f.m)), (.dat (I f.s)), (.dat (.sl 2 (f.t.map encTrain)))])), (43, (.row 38 2 ([(⟨f.m, (profit f).1⟩ : Pay)].map encPay))), (44, (.row 38 2 (((shares f) ++ [(⟨f.m, (profit f).1⟩ : Pay)]).map encPay)))]) | 1023 => (mk 99 [(1, (dt (I s))), (2, (.one (.ref 2 0))), (6, (dt (.sl 2 ((shares f).map encPay)))), (8, (dt (I (profit f).1))), (10, (.one (.own 44))), (37, (dt (.sl 2 ((shares f).map encPay)))), (39, (.one (.ref 2 2))), (40, (dt (I f.m))), (41, (dt (I (profit f).1))), (42, (.agg [(.dat (I f.m)), (.dat (I (profit f).1))])), (43, (.one (.own 43))), (44, (.one (.own 44)))] [(2, (.var [(.dat (I f.a)), (.dat (I f.p)), (.dat (I f.m)), (.dat (I f.s)), (.dat (.sl 2 (f.t.map encTrain)))])), (43, (.row 38 2 ([(⟨f.m, (profit f).1⟩ : Pay)].map encPay))), (44, (.row 38 2 (((shares f) ++ [(⟨f.m, (profit f).1⟩ : Pay)]).map encPay)))]) | _ => (mk 0 [] [])) (by kernel_rfl) (by kernel_rfl) (le_order [1, 2, 6, 8] [2] (by kernel_rfl) (by decide) (by kernel_rfl)) ?_ ?_
        · skip
          refine Edges.cons (by decide) ?_ ?_
          · skip
            refine TL_part 1 [] (mk 99 [(1, (dt (I s))), (2, (.one (.ref 2 0))), (6, (dt (.sl 2 ((shares f).map encPay)))), (8, (dt (I (profit f).1))), (36, (.one (.own 36)))] [(36, (.row 38 2 (([] : List Pay).map encPay))), (2, (.var [(.dat (I f.a)), (.dat (I f.p)), (.dat (I f.m)), (.dat (I f.s)), (.dat (.sl 2 (f.t.map encTrain)))]))]) (True ∧ (dfill (fun i => some (i * 2, 2)) (List.replicate (0 * 2) .junk) [] = some ((flat (([] : List Pay).map encPay)).map .dat)) ∧ True) (by kernel_rfl) ⟨trivial, rfl, trivial⟩ rfl ?_
            refine TL_nilQ ?_
            exact QE_turn [1, 2, 6, 8, 36] [] [2, 36] (by kernel_rfl) (by decide) (by kernel_rfl)
          refine Edges.cons (by decide) ?_ ?_
          · skip
            refine TL_part 1 [] (mk 99 [(1, (dt (I s))), (2, (.one (.ref 2 0))), (6, (dt (.sl 2 ((shares f).map encPay)))), (8, (dt (I (profit f).1))), (37, (dt (.sl 2 ((shares f).map encPay))))] [(2, (.var [(.dat (I f.a)), (.dat (I f.p)), (.dat (I f.m)), (.dat (I f.s)), (.dat (.sl 2 (f.t.map encTrain)))]))]) (True ∧ True ∧ True) (by kernel_rfl) ⟨trivial, trivial, trivial⟩ rfl ?_
            refine TL_nilQ ?_
            exact QE_turn [1, 2, 6, 8, 37] [] [2] (by kernel_rfl) (by decide) (by kernel_rfl)
          refine Edges.cons (by decide) ?_ ?_
          · skip
            refine TL_part 1 [] (mk 99 [(1, (dt (I s))), (2, (.one (.ref 2 0))), (6, (dt (.sl 2 ((shares f).map encPay)))), (8, (dt (I (profit f).1))), (39, (.one (.ref 2 2)))] [(2, (.var [(.dat (I f.a)), (.dat (I f.p)), (.dat (I f.m)), (.dat (I f.s)), (.dat (.sl 2 (f.t.map encTrain)))]))]) (True ∧ True ∧ True) (by kernel_rfl) ⟨trivial, trivial, trivial⟩ rfl ?_
            refine TL_nilQ ?_
            exact QE_turn [1, 2, 6, 8, 39] [] [2] (by kernel_rfl) (by decide) (by kernel_rfl)
          refine Edges.cons (by decide) ?_ ?_
          · skip
            refine TL_part 1 [] (mk 99 [(1, (dt (I s))), (2, (.one (.ref 2 0))), (6, (dt (.sl 2 ((shares f).map encPay)))), (8, (dt (I (profit f).1))), (41, (dt (I (profit f).1)))] [(2, (.var [(.dat (I f.a)), (.dat (I f.p)), (.dat (I f.m)), (.dat (I f.s)), (.dat (.sl 2 (f.t.map encTrain)))]))]) (True ∧ True ∧ True) (by kernel_rfl) ⟨trivial, trivial, trivial⟩ rfl ?_
            refine TL_nilQ ?_
            exact QE_turn [1, 2, 6, 8, 41] [] [2] (by kernel_rfl) (by decide) (by kernel_rfl)
          refine Edges.cons (by decide) ?_ ?_
          · skip
            refine TL_part 1 [] (mk 99 [(1, (dt (I s))), (2, (.one (.ref 2 0))), (6, (dt (.sl 2 ((shares f).map encPay)))), (8, (dt (I (profit f).1))), (36, (.one (.own 36))), (37, (dt (.sl 2 ((shares f).map encPay))))] [(2, (.var [(.dat (I f.a)), (.dat (I f.p)), (.dat (I f.m)), (.dat (I f.s)), (.dat (.sl 2 (f.t.map encTrain)))])), (36, (.row 38 2 (([] : List Pay).map encPay)))]) (True ∧ True ∧ True) (by kernel_rfl) ⟨trivial, trivial, trivial⟩ rfl ?_
            refine TL_nilQ ?_
            exact QE_turn [1, 2, 6, 8, 36, 37] [] [2, 36] (by kernel_rfl) (by decide) (by kernel_rfl)
          refine Edges.cons (by decide) ?_ ?_
          · skip
            refine TL_part 1 [] (mk 99 [(1, (dt (I s))), (2, (.one (.ref 2 0))), (6, (dt (.sl 2 ((shares f).map encPay)))), (8, (dt (I (profit f).1))), (36, (.one (.own 36))), (39, (.one (.ref 2 2)))] [(2, (.var [(.dat (I f.a)), (.dat (I f.p)), (.dat (I f.m)), (.dat (I f.s)), (.dat (.sl 2 (f.t.map encTrain)))])), (36, (.row 38 2 (([] : List Pay).map encPay)))]) (True ∧ True ∧ True) (by kernel_rfl) ⟨trivial, trivial, trivial⟩ rfl ?_
            refine TL_nilQ ?_
            exact QE_turn [1, 2, 6, 8, 36, 39] [] [2, 36] (by kernel_rfl) (by decide) (by kernel_rfl)
          refine Edges.cons (by decide) ?_ ?_
          · skip
            refine TL_part 1 [] (mk 99 [(1, (dt (I s))), (2, (.one (.ref 2 0))), (6, (dt (.sl 2 ((shares f).map encPay)))), (8, (dt (I (profit f).1))), (36, (.one (.own 36))), (41, (dt (I (profit f).1)))] [(2, (.var [(.dat (I f.a)), (.dat (I f.p)), (.dat (I f.m)), (.dat (I f.s)), (.dat (.sl 2 (f.t.map encTrain)))])), (36, (.row 38 2 (([] : List Pay).map encPay)))]) (True ∧ True ∧ True) (by kernel_rfl) ⟨trivial, trivial, trivial⟩ rfl ?_
            refine TL_nilQ ?_
            exact QE_turn [1, 2, 6, 8, 36, 41] [] [2, 36] (by kernel_rfl) (by decide) (by kernel_rfl)
          refine Edges.cons (by decide) ?_ ?_
          · skip
            refine TL_part 1 [] (mk 99 [(1, (dt (I s))), (2, (.one (.ref 2 0))), (6, (dt (.sl 2 ((shares f).map encPay)))), (8, (dt (I (profit f).1))), (36, (.one (.own 36))), (37, (dt (.sl 2 ((shares f).map encPay))))] [(36, (.row 38 2 (([] : List Pay).map encPay))), (2, (.var [(.dat (I f.a)), (.dat (I f.p)), (.dat (I f.m)), (.dat (I f.s)), (.dat (.sl 2 (f.t.map encTrain)))]))]) (True ∧ (dfill (fun i => some (i * 2, 2)) (List.replicate (0 * 2) .junk) [] = some ((flat (([] : List Pay).map encPay)).map .dat)) ∧ True) (by kernel_rfl) ⟨trivial, rfl, trivial⟩ rfl ?_
            refine TL_nilQ ?_
            exact QE_turn [1, 2, 6, 8, 36, 37] [] [2, 36] (by kernel_rfl) (by decide) (by kernel_rfl)
          refine Edges.cons (by decide) ?_ ?_
          · skip
            refine TL_part 1 [] (mk 99 [(1, (dt (I s))), (2, (.one (.ref 2 0))), (6, (dt (.sl 2 ((shares f).map encPay)))), (8, (dt (I (profit f).1))), (37, (dt (.sl 2 ((shares f).map encPay)))), (39, (.one (.ref 2 2)))] [(2, (.var [(.dat (I f.a)), (.dat (I f.p)), (.dat (I f.m)), (.dat (I f.s)), (.dat (.sl 2 (f.t.map encTrain)))]))]) (True ∧ True ∧ True) (by kernel_rfl) ⟨trivial, trivial, trivial⟩ rfl ?_
            refine TL_nilQ ?_
            exact QE_turn [1, 2, 6, 8, 37, 39] [] [2] (by kernel_rfl) (by decide) (by kernel_rfl)
          refine Edges.cons (by decide) ?_ ?_
          · skip
            refine TL_part 1 [] (mk 99 [(1, (dt (I s))), (2, (.one (.ref 2 0))), (6, (dt (.sl 2 ((shares f).map encPay)))), (8, (dt (I (profit f).1))), (37, (dt (.sl 2 ((shares f).map encPay)))), (41, (dt (I (profit f).1)))] [(2, (.var [(.dat (I f.a)), (.dat (I f.p)), (.dat (I f.m)), (.dat (I f.s)), (.dat (.sl 2 (f.t.map encTrain)))]))]) (True ∧ True ∧ True) (by kernel_rfl) ⟨trivial, trivial, trivial⟩ rfl ?_
            refine TL_nilQ ?_
            exact QE_turn [1, 2, 6, 8, 37, 41] [] [2] (by kernel_rfl) (by decide) (by kernel_rfl)
          refine Edges.cons (by decide) ?_ ?_
          · skip
            refine TL_part 1 [] (mk 99 [(1, (dt (I s))), (2, (.one (.ref 2 0))), (6, (dt (.sl 2 ((shares f).map encPay)))), (8, (dt (I (profit f).1))), (36, (.one (.own 36))), (39, (.one (.ref 2 2)))] [(36, (.row 38 2 (([] : List Pay).map encPay))), (2, (.var [(.dat (I f.a)), (.dat (I f.p)), (.dat (I f.m)), (.dat (I f.s)), (.dat (.sl 2 (f.t.map encTrain)))]))]) (True ∧ (dfill (fun i => some (i * 2, 2)) (List.replicate (0 * 2) .junk) [] = some ((flat (([] : List Pay).map encPay)).map .dat)) ∧ True) (by kernel_rfl) ⟨trivial, rfl, trivial⟩ rfl ?_
            refine TL_nilQ ?_
            exact QE_turn [1, 2, 6, 8, 36, 39] [] [2, 36] (by kernel_rfl) (by decide) (by kernel_rfl)
          refine Edges.cons (by decide) ?_ ?_
          · skip
            refine TL_part 1 [] (mk 99 [(1, (dt (I s))), (2, (.one (.ref 2 0))), (6, (dt (.sl 2 ((shares f).map encPay)))), (8, (dt (I (profit f).1))), (37, (dt (.sl 2 ((shares f).map encPay)))), (39, (.one (.ref 2 2)))] [(2, (.var [(.dat (I f.a)), (.dat (I f.p)), (.dat (I f.m)), (.dat (I f.s)), (.dat (.sl 2 (f.t.map encTrain)))]))]) (True ∧ True ∧ True) (by kernel_rfl) ⟨trivial, trivial, trivial⟩ rfl ?_
            refine TL_nilQ ?_
            exact QE_turn [1, 2, 6, 8, 37, 39] [] [2] (by kernel_rfl) (by decide) (by kernel_rfl)
          refine Edges.cons (by decide) ?_ ?_
          · skip
            refine TL_part 1 [] (mk 99 [(1, (dt (I s))), (2, (.one (.ref 2 0))), (6, (dt (.sl 2 ((shares f).map encPay)))), (8, (dt (I (profit f).1))), (39, (.one (.ref 2 2))), (40, (dt (I f.m)))] [(2, (.var [(.dat (I f.a)), (.dat (I f.p)), (.dat (I f.m)), (.dat (I f.s)), (.dat (.sl 2 (f.t.map encTrain)))]))]) (True ∧ True ∧ True) (by kernel_rfl) ⟨trivial, trivial, trivial⟩ rfl ?_
            refine TL_nilQ ?_
            exact QE_turn [1, 2, 6, 8, 39, 40] [] [2] (by kernel_rfl) (by decide) (by kernel_rfl)
          refine Edges.cons (by decide) ?_ ?_
          · skip
            refine TL_part 1 [] (mk 99 [(1, (dt (I s))), (2, (.one (.ref 2 0))), (6, (dt (.sl 2 ((shares f).map encPay)))), (8, (dt (I (profit f).1))), (39, (.one (.ref 2 2))), (41, (dt (I (profit f).1)))] [(2, (.var [(.dat (I f.a)), (.dat (I f.p)), (.dat (I f.m)), (.dat (I f.s)), (.dat (.sl 2 (f.t.map encTrain)))]))]) (True ∧ True ∧ True) (by kernel_rfl) ⟨trivial, trivial, trivial⟩ rfl ?_
            refine TL_nilQ ?_
            exact QE_turn [1, 2, 6, 8, 39, 41] [] [2] (by kernel_rfl) (by decide) (by kernel_rfl)
          refine Edges.cons (by decide) ?_ ?_
          · skip
            refine TL_part 1 [] (mk 99 [(1, (dt (I s))), (2, (.one (.ref 2 0))), (6, (dt (.sl 2 ((shares f).map encPay)))), (8, (dt (I (profit f).1))), (36, (.one (.own 36))), (41, (dt (I (profit f).1)))] [(36, (.row 38 2 (([] : List Pay).map encPay))), (2, (.var [(.dat (I f.a)), (.dat (I f.p)), (.dat (I f.m)), (.dat (I f.s)), (.dat (.sl 2 (f.t.map encTrain)))]))]) (True ∧ (dfill (fun i => some (i * 2, 2)) (List.replicate (0 * 2) .junk) [] = some ((flat (([] : List Pay).map encPay)).map .dat)) ∧ True) (by kernel_rfl) ⟨trivial, rfl, trivial⟩ rfl ?_
            refine TL_nilQ ?_
            exact QE_turn [1, 2, 6, 8, 36, 41] [] [2, 36] (by kernel_rfl) (by decide) (by kernel_rfl)
          refine Edges.cons (by decide) ?_ ?_
          · skip
            refine TL_part 1 [] (mk 99 [(1, (dt (I s))), (2, (.one (.ref 2 0))), (6, (dt (.sl 2 ((shares f).map encPay)))), (8, (dt (I (profit f).1))), (37, (dt (.sl 2 ((shares f).map encPay)))), (41, (dt (I (profit f).1)))] [(2, (.var [(.dat (I f.a)), (.dat (I f.p)), (.dat (I f.m)), (.dat (I f.s)), (.dat (.sl 2 (f.t.map encTrain)))]))]) (True ∧ True ∧ True) (by kernel_rfl) ⟨trivial, trivial, trivial⟩ rfl ?_
            refine TL_nilQ ?_
            exact QE_turn [1, 2, 6, 8, 37, 41] [] [2] (by kernel_rfl) (by decide) (by kernel_rfl)
          refine Edges.cons (by decide) ?_ ?_
          · skip
            refine TL_part 1 [] (mk 99 [(1, (dt (I s))), (2, (.one (.ref 2 0))), (6, (dt (.sl 2 ((shares f).map encPay)))), (8, (dt (I (profit f).1))), (39, (.one (.ref 2 2))), (41, (dt (I (profit f).1)))] [(2, (.var [(.dat (I f.a)), (.dat (I f.p)), (.dat (I f.m)), (.dat (I f.s)), (.dat (.sl 2 (f.t.map encTrain)))]))]) (True ∧ True ∧ True) (by kernel_rfl) ⟨trivial, trivial, trivial⟩ rfl ?_
            refine TL_nilQ ?_
            exact QE_turn [1, 2, 6, 8, 39, 41] [] [2] (by kernel_rfl) (by decide) (by kernel_rfl)
          refine Edges.cons (by decide) ?_ ?_
          · skip
            refine TL_part 1 [{ d := some (.sl 2 ((shares f).map encPay)) }] (mk 99 [(1, (dt (I s))), (2, (.one (.ref 2 0))), (6, (dt (.sl 2 ((shares f).map encPay)))), (8, (dt (I (profit f).1))), (37, (dt (.sl 2 ((shares f).map encPay)))), (38, (.one (.own 38)))] [(38, (.row 38 2 ((shares f).map encPay))), (2, (.var [(.dat (I f.a)), (.dat (I f.p)), (.dat (I f.m)), (.dat (I f.s)), (.dat (.sl 2 (f.t.map encTrain)))]))]) (True ∧ (((([] : List Pay).map encPay).length + ((shares f).map encPay).length) * 16 ≤ 140737488355328 ∧ cellsOne ((shares f).map encPay) ∧ (([] : List Pay).map encPay) ++ (shares f).map encPay = (shares f).map encPay) ∧ True) (by kernel_rfl) ⟨trivial, ⟨by simp only [List.length_map, List.length_nil, List.length_cons]; first | omega | (simp only [List.length_append, List.length_cons, List.length_nil]; omega), encPay_one _, by simp⟩, trivial⟩ rfl ?_
            refine TL_nilQ ?_
            exact QE_turn [1, 2, 6, 8, 37, 38] [] [2, 38] (by kernel_rfl) (by decide) (by kernel_rfl)
          refine Edges.cons (by decide) ?_ ?_
          · skip
            refine TL_part 1 [] (mk 99 [(1, (dt (I s))), (2, (.one (.ref 2 0))), (6, (dt (.sl 2 ((shares f).map encPay)))), (8, (dt (I (profit f).1))), (36, (.one (.own 36))), (37, (dt (.sl 2 ((shares f).map encPay)))), (39, (.one (.ref 2 2)))] [(2, (.var [(.dat (I f.a)), (.dat (I f.p)), (.dat (I f.m)), (.dat (I f.s)), (.dat (.sl 2 (f.t.map encTrain)))])), (36, (.row 38 2 (([] : List Pay).map encPay)))]) (True ∧ True ∧ True) (by kernel_rfl) ⟨trivial, trivial, trivial⟩ rfl ?_
            refine TL_nilQ ?_
            exact QE_turn [1, 2, 6, 8, 36, 37, 39] [] [2, 36] (by kernel_rfl) (by decide) (by kernel_rfl)
          refine Edges.cons (by decide) ?_ ?_
          · skip
            refine TL_part 1 [] (mk 99 [(1, (dt (I s))), (2, (.one (.ref 2 0))), (6, (dt (.sl 2 ((shares f).map encPay)))), (8, (dt (I (profit f).1))), (36, (.one (.own 36))), (37, (dt (.sl 2 ((shares f).map encPay)))), (41, (dt (I (profit f).1)))] [(2, (.var [(.dat (I f.a)), (.dat (I f.p)), (.dat (I f.m)), (.dat (I f.s)), (.dat (.sl 2 (f.t.map encTrain)))])), (36, (.row 38 2 (([] : List Pay).map encPay)))]) (True ∧ True ∧ True) (by kernel_rfl) ⟨trivial, trivial, trivial⟩ rfl ?_
            refine TL_nilQ ?_
            exact QE_turn [1, 2, 6, 8, 36, 37, 41] [] [2, 36] (by kernel_rfl) (by decide) (by kernel_rfl)
          refine Edges.cons (by decide) ?_ ?_
          · skip
            refine TL_part 1 [] (mk 99 [(1, (dt (I s))), (2, (.one (.ref 2 0))), (6, (dt (.sl 2 ((shares f).map encPay)))), (8, (dt (I (profit f).1))), (36, (.one (.own 36))), (37, (dt (.sl 2 ((shares f).map encPay)))), (39, (.one (.ref 2 2)))] [(2, (.var [(.dat (I f.a)), (.dat (I f.p)), (.dat (I f.m)), (.dat (I f.s)), (.dat (.sl 2 (f.t.map encTrain)))])), (36, (.row 38 2 (([] : List Pay).map encPay)))]) (True ∧ True ∧ True) (by kernel_rfl) ⟨trivial, trivial, trivial⟩ rfl ?_
            refine TL_nilQ ?_
            exact QE_turn [1, 2, 6, 8, 36, 37, 39] [] [2, 36] (by kernel_rfl) (by decide) (by kernel_rfl)
          refine Edges.cons (by decide) ?_ ?_
          · skip
            refine TL_part 1 [] (mk 99 [(1, (dt (I s))), (2, (.one (.ref 2 0))), (6, (dt (.sl 2 ((shares f).map encPay)))), (8, (dt (I (profit f).1))), (36, (.one (.own 36))), (39, (.one (.ref 2 2))), (40, (dt (I f.m)))] [(2, (.var [(.dat (I f.a)), (.dat (I f.p)), (.dat (I f.m)), (.dat (I f.s)), (.dat (.sl 2 (f.t.map encTrain)))])), (36, (.row 38 2 (([] : List Pay).map encPay)))]) (True ∧ True ∧ True) (by kernel_rfl) ⟨trivial, trivial, trivial⟩ rfl ?_
            refine TL_nilQ ?_
            exact QE_turn [1, 2, 6, 8, 36, 39, 40] [] [2, 36] (by kernel_rfl) (by decide) (by kernel_rfl)
          refine Edges.cons (by decide) ?_ ?_
          · skip
            refine TL_part 1 [] (mk 99 [(1, (dt (I s))), (2, (.one (.ref 2 0))), (6, (dt (.sl 2 ((shares f).map encPay)))), (8, (dt (I (profit f).1))), (36, (.one (.own 36))), (39, (.one (.ref 2 2))), (41, (dt (I (profit f).1)))] [(2, (.var [(.dat (I f.a)), (.dat (I f.p)), (.dat (I f.m)), (.dat (I f.s)), (.dat (.sl 2 (f.t.map encTrain)))])), (36, (.row 38 2 (([] : List Pay).map encPay)))]) (True ∧ True ∧ True) (by kernel_rfl) ⟨trivial, trivial, trivial⟩ rfl ?_
            refine TL_nilQ ?_
            exact QE_turn [1, 2, 6, 8, 36, 39, 41] [] [2, 36] (by kernel_rfl) (by decide) (by kernel_rfl)
          refine Edges.cons (by decide) ?_ ?_
          · skip
            refine TL_part 1 [] (mk 99 [(1, (dt (I s))), (2, (.one (.ref 2 0))), (6, (dt (.sl 2 ((shares f).map encPay)))), (8, (dt (I (profit f).1))), (36, (.one (.own 36))), (37, (dt (.sl 2 ((shares f).map encPay)))), (41, (dt (I (profit f).1)))] [(2, (.var [(.dat (I f.a)), (.dat (I f.p)), (.dat (I f.m)), (.dat (I f.s)), (.dat (.sl 2 (f.t.map encTrain)))])), (36, (.row 38 2 (([] : List Pay).map encPay)))]) (True ∧ True ∧ True) (by kernel_rfl) ⟨trivial, trivial, trivial⟩ rfl ?_
            refine TL_nilQ ?_
            exact QE_turn [1, 2, 6, 8, 36, 37, 41] [] [2, 36] (by kernel_rfl) (by decide) (by kernel_rfl)
          refine Edges.cons (by decide) ?_ ?_
          · skip
            refine TL_part 1 [] (mk 99 [(1, (dt (I s))), (2, (.one (.ref 2 0))), (6, (dt (.sl 2 ((shares f).map encPay)))), (8, (dt (I (profit f).1))), (36, (.one (.own 36))), (39, (.one (.ref 2 2))), (41, (dt (I (profit f).1)))] [(2, (.var [(.dat (I f.a)), (.dat (I f.p)), (.dat (I f.m)), (.dat (I f.s)), (.dat (.sl 2 (f.t.map encTrain)))])), (36, (.row 38 2 (([] : List Pay).map encPay)))]) (True ∧ True ∧ True) (by kernel_rfl) ⟨trivial, trivial, trivial⟩ rfl ?_
            refine TL_nilQ ?_
            exact QE_turn [1, 2, 6, 8, 36, 39, 41] [] [2, 36] (by kernel_rfl) (by decide) (by kernel_rfl)
          refine Edges.cons (by decide) ?_ ?_
          · skip
            refine TL_part 1 [] (mk 99 [(1, (dt (I s))), (2, (.one (.ref 2 0))), (6, (dt (.sl 2 ((shares f).map encPay)))), (8, (dt (I (profit f).1))), (36, (.one (.own 36))), (37, (dt (.sl 2 ((shares f).map encPay)))), (39, (.one (.ref 2 2)))] [(36, (.row 38 2 (([] : List Pay).map encPay))), (2, (.var [(.dat (I f.a)), (.dat (I f.p)), (.dat (I f.m)), (.dat (I f.s)), (.dat (.sl 2 (f.t.map encTrain)))]))]) (True ∧ (dfill (fun i => some (i * 2, 2)) (List.replicate (0 * 2) .junk) [] = some ((flat (([] : List Pay).map encPay)).map .dat)) ∧ True) (by kernel_rfl) ⟨trivial, rfl, trivial⟩ rfl ?_
            refine TL_nilQ ?_
            exact QE_turn [1, 2, 6, 8, 36, 37, 39] [] [2, 36] (by kernel_rfl) (by decide) (by kernel_rfl)
          refine Edges.cons (by decide) ?_ ?_
          · skip
            refine TL_part 1 [] (mk 99 [(1, (dt (I s))), (2, (.one (.ref 2 0))), (6, (dt (.sl 2 ((shares f).map encPay)))), (8, (dt (I (profit f).1))), (37, (dt (.sl 2 ((shares f).map encPay)))), (39, (.one (.ref 2 2))), (40, (dt (I f.m)))] [(2, (.var [(.dat (I f.a)), (.dat (I f.p)), (.dat (I f.m)), (.dat (I f.s)), (.dat (.sl 2 (f.t.map encTrain)))]))]) (True ∧ True ∧ True) (by kernel_rfl) ⟨trivial, trivial, trivial⟩ rfl ?_
            refine TL_nilQ ?_
            exact QE_turn [1, 2, 6, 8, 37, 39, 40] [] [2] (by kernel_rfl) (by decide) (by kernel_rfl)
          refine Edges.cons (by decide) ?_ ?_
          · skip
            refine TL_part 1 [] (mk 99 [(1, (dt (I s))), (2, (.one (.ref 2 0))), (6, (dt (.sl 2 ((shares f).map encPay)))), (8, (dt (I (profit f).1))), (37, (dt (.sl 2 ((shares f).map encPay)))), (39, (.one (.ref 2 2))), (41, (dt (I (profit f).1)))] [(2, (.var [(.dat (I f.a)), (.dat (I f.p)), (.dat (I f.m)), (.dat (I f.s)), (.dat (.sl 2 (f.t.map encTrain)))]))]) (True ∧ True ∧ True) (by kernel_rfl) ⟨trivial, trivial, trivial⟩ rfl ?_
            refine TL_nilQ ?_
            exact QE_turn [1, 2, 6, 8, 37, 39, 41] [] [2] (by kernel_rfl) (by decide) (by kernel_rfl)
          refine Edges.cons (by decide) ?_ ?_
          · skip
            refine TL_part 1 [] (mk 99 [(1, (dt (I s))), (2, (.one (.ref 2 0))), (6, (dt (.sl 2 ((shares f).map encPay)))), (8, (dt (I (profit f).1))), (36, (.one (.own 36))), (37, (dt (.sl 2 ((shares f).map encPay)))), (41, (dt (I (profit f).1)))] [(36, (.row 38 2 (([] : List Pay).map encPay))), (2, (.var [(.dat (I f.a)), (.dat (I f.p)), (.dat (I f.m)), (.dat (I f.s)), (.dat (.sl 2 (f.t.map encTrain)))]))]) (True ∧ (dfill (fun i => some (i * 2, 2)) (List.replicate (0 * 2) .junk) [] = some ((flat (([] : List Pay).map encPay)).map .dat)) ∧ True) (by kernel_rfl) ⟨trivial, rfl, trivial⟩ rfl ?_
            refine TL_nilQ ?_
            exact QE_turn [1, 2, 6, 8, 36, 37, 41] [] [2, 36] (by kernel_rfl) (by decide) (by kernel_rfl)
          refine Edges.cons (by decide) ?_ ?_
          · skip
            refine TL_part 1 [] (mk 99 [(1, (dt (I s))), (2, (.one (.ref 2 0))), (6, (dt (.sl 2 ((shares f).map encPay)))), (8, (dt (I (profit f).1))), (37, (dt (.sl 2 ((shares f).map encPay)))), (39, (.one (.ref 2 2))), (41, (dt (I (profit f).1)))] [(2, (.var [(.dat (I f.a)), (.dat (I f.p)), (.dat (I f.m)), (.dat (I f.s)), (.dat (.sl 2 (f.t.map encTrain)))]))]) (True ∧ True ∧ True) (by kernel_rfl) ⟨trivial, trivial, trivial⟩ rfl ?_
            refine TL_nilQ ?_
            exact QE_turn [1, 2, 6, 8, 37, 39, 41] [] [2] (by kernel_rfl) (by decide) (by kernel_rfl)
          refine Edges.cons (by decide) ?_ ?_
          · skip
            refine TL_part 1 [] (mk 99 [(1, (dt (I s))), (2, (.one (.ref 2 0))), (6, (dt (.sl 2 ((shares f).map encPay)))), (8, (dt (I (profit f).1))), (36, (.one (.own 36))), (39, (.one (.ref 2 2))), (40, (dt (I f.m)))] [(36, (.row 38 2 (([] : List Pay).map encPay))), (2, (.var [(.dat (I f.a)), (.dat (I f.p)), (.dat (I f.m)), (.dat (I f.s)), (.dat (.sl 2 (f.t.map encTrain)))]))]) (True ∧ (dfill (fun i => some (i * 2, 2)) (List.replicate (0 * 2) .junk) [] = some ((flat (([] : List Pay).map encPay)).map .dat)) ∧ True) (by kernel_rfl) ⟨trivial, rfl, trivial⟩ rfl ?_
            refine TL_nilQ ?_
            exact QE_turn [1, 2, 6, 8, 36, 39, 40] [] [2, 36] (by kernel_rfl) (by decide) (by kernel_rfl)
          refine Edges.cons (by decide) ?_ ?_
          · skip
            refine TL_part 1 [] (mk 99 [(1, (dt (I s))), (2, (.one (.ref 2 0))), (6, (dt (.sl 2 ((shares f).map encPay)))), (8, (dt (I (profit f).1))), (37, (dt (.sl 2 ((shares f).map encPay)))), (39, (.one (.ref 2 2))), (40, (dt (I f.m)))] [(2, (.var [(.dat (I f.a)), (.dat (I f.p)), (.dat (I f.m)), (.dat (I f.s)), (.dat (.sl 2 (f.t.map encTrain)))]))]) (True ∧ True ∧ True) (by kernel_rfl) ⟨trivial, trivial, trivial⟩ rfl ?_
            refine TL_nilQ ?_
            exact QE_turn [1, 2, 6, 8, 37, 39, 40] [] [2] (by kernel_rfl) (by decide) (by kernel_rfl)
          refine Edges.cons (by decide) ?_ ?_
          · skip
            refine TL_part 1 [] (mk 99 [(1, (dt (I s))), (2, (.one (.ref 2 0))), (6, (dt (.sl 2 ((shares f).map encPay)))), (8, (dt (I (profit f).1))), (39, (.one (.ref 2 2))), (40, (dt (I f.m))), (41, (dt (I (profit f).1)))] [(2, (.var [(.dat (I f.a)), (.dat (I f.p)), (.dat (I f.m)), (.dat (I f.s)), (.dat (.sl 2 (f.t.map encTrain)))]))]) (True ∧ True ∧ True) (by kernel_rfl) ⟨trivial, trivial, trivial⟩ rfl ?_
            refine TL_nilQ ?_
            exact QE_turn [1, 2, 6, 8, 39, 40, 41] [] [2] (by kernel_rfl) (by decide) (by kernel_rfl)
          refine Edges.cons (by decide) ?_ ?_
          · skip
            refine TL_part 1 [] (mk 99 [(1, (dt (I s))), (2, (.one (.ref 2 0))), (6, (dt (.sl 2 ((shares f).map encPay)))), (8, (dt (I (profit f).1))), (36, (.one (.own 36))), (39, (.one (.ref 2 2))), (41, (dt (I (profit f).1)))] [(36, (.row 38 2 (([] : List Pay).map encPay))), (2, (.var [(.dat (I f.a)), (.dat (I f.p)), (.dat (I f.m)), (.dat (I f.s)), (.dat (.sl 2 (f.t.map encTrain)))]))]) (True ∧ (dfill (fun i => some (i * 2, 2)) (List.replicate (0 * 2) .junk) [] = some ((flat (([] : List Pay).map encPay)).map .dat)) ∧ True) (by kernel_rfl) ⟨trivial, rfl, trivial⟩ rfl ?_
            refine TL_nilQ ?_
            exact QE_turn [1, 2, 6, 8, 36, 39, 41] [] [2, 36] (by kernel_rfl) (by decide) (by kernel_rfl)
          refine Edges.cons (by decide) ?_ ?_
          · skip
            refine TL_part 1 [] (mk 99 [(1, (dt (I s))), (2, (.one (.ref 2 0))), (6, (dt (.sl 2 ((shares f).map encPay)))), (8, (dt (I (profit f).1))), (37, (dt (.sl 2 ((shares f).map encPay)))), (39, (.one (.ref 2 2))), (41, (dt (I (profit f).1)))] [(2, (.var [(.dat (I f.a)), (.dat (I f.p)), (.dat (I f.m)), (.dat (I f.s)), (.dat (.sl 2 (f.t.map encTrain)))]))]) (True ∧ True ∧ True) (by kernel_rfl) ⟨trivial, trivial, trivial⟩ rfl ?_
            refine TL_nilQ ?_
            exact QE_turn [1, 2, 6, 8, 37, 39, 41] [] [2] (by kernel_rfl) (by decide) (by kernel_rfl)
          refine Edges.cons (by decide) ?_ ?_
          · skip
            refine TL_part 1 [] (mk 99 [(1, (dt (I s))), (2, (.one (.ref 2 0))), (6, (dt (.sl 2 ((shares f).map encPay)))), (8, (dt (I (profit f).1))), (39, (.one (.ref 2 2))), (40, (dt (I f.m))), (41, (dt (I (profit f).1)))] [(2, (.var [(.dat (I f.a)), (.dat (I f.p)), (.dat (I f.m)), (.dat (I f.s)), (.dat (.sl 2 (f.t.map encTrain)))]))]) (True ∧ True ∧ True) (by kernel_rfl) ⟨trivial, trivial, trivial⟩ rfl ?_
            refine TL_nilQ ?_
            exact QE_turn [1, 2, 6, 8, 39, 40, 41] [] [2] (by kernel_rfl) (by decide) (by kernel_rfl)
          refine Edges.cons (by decide) ?_ ?_
          · skip
            refine TL_part 1 [] (mk 99 [(1, (dt (I s))), (2, (.one (.ref 2 0))), (6, (dt (.sl 2 ((shares f).map encPay)))), (8, (dt (I (profit f).1))), (37, (dt (.sl 2 ((shares f).map encPay)))), (38, (.one (.own 38))), (39, (.one (.ref 2 2)))] [(2, (.var [(.dat (I f.a)), (.dat (I f.p)), (.dat (I f.m)), (.dat (I f.s)), (.dat (.sl 2 (f.t.map encTrain)))])), (38, (.row 38 2 ((shares f).map encPay)))]) (True ∧ True ∧ True) (by kernel_rfl) ⟨trivial, trivial, trivial⟩ rfl ?_
            refine TL_nilQ ?_
            exact QE_turn [1, 2, 6, 8, 37, 38, 39] [] [2, 38] (by kernel_rfl) (by decide) (by kernel_rfl)
          refine Edges.cons (by decide) ?_ ?_
          · skip
            refine TL_part 1 [] (mk 99 [(1, (dt (I s))), (2, (.one (.ref 2 0))), (6, (dt (.sl 2 ((shares f).map encPay)))), (8, (dt (I (profit f).1))), (37, (dt (.sl 2 ((shares f).map encPay)))), (38, (.one (.own 38))), (41, (dt (I (profit f).1)))] [(2, (.var [(.dat (I f.a)), (.dat (I f.p)), (.dat (I f.m)), (.dat (I f.s)), (.dat (.sl 2 (f.t.map encTrain)))])), (38, (.row 38 2 ((shares f).map encPay)))]) (True ∧ True ∧ True) (by kernel_rfl) ⟨trivial, trivial, trivial⟩ rfl ?_
            refine TL_nilQ ?_
            exact QE_turn [1, 2, 6, 8, 37, 38, 41] [] [2, 38] (by kernel_rfl) (by decide) (by kernel_rfl)
          refine Edges.cons (by decide) ?_ ?_
          · skip
            refine TL_part 1 [{ d := some (.sl 2 ((shares f).map encPay)) }] (mk 99 [(1, (dt (I s))), (2, (.one (.ref 2 0))), (6, (dt (.sl 2 ((shares f).map encPay)))), (8, (dt (I (profit f).1))), (37, (dt (.sl 2 ((shares f).map encPay)))), (38, (.one (.own 38))), (39, (.one (.ref 2 2)))] [(38, (.row 38 2 ((shares f).map encPay))), (2, (.var [(.dat (I f.a)), (.dat (I f.p)), (.dat (I f.m)), (.dat (I f.s)), (.dat (.sl 2 (f.t.map encTrain)))]))]) (True ∧ (((([] : List Pay).map encPay).length + ((shares f).map encPay).length) * 16 ≤ 140737488355328 ∧ cellsOne ((shares f).map encPay) ∧ (([] : List Pay).map encPay) ++ (shares f).map encPay = (shares f).map encPay) ∧ True) (by kernel_rfl) ⟨trivial, ⟨by simp only [List.length_map, List.length_nil, List.length_cons]; first | omega | (simp only [List.length_append, List.length_cons, List.length_nil]; omega), encPay_one _, by simp⟩, trivial⟩ rfl ?_
            refine TL_nilQ ?_
            exact QE_turn [1, 2, 6, 8, 37, 38, 39] [] [2, 38] (by kernel_rfl) (by decide) (by kernel_rfl)
          refine Edges.cons (by decide) ?_ ?_
          · skip
            refine TL_part 1 [] (mk 99 [(1, (dt (I s))), (2, (.one (.ref 2 0))), (6, (dt (.sl 2 ((shares f).map encPay)))), (8, (dt (I (profit f).1))), (36, (.one (.own 36))), (37, (dt (.sl 2 ((shares f).map encPay)))), (39, (.one (.ref 2 2))), (40, (dt (I f.m)))] [(2, (.var [(.dat (I f.a)), (.dat (I f.p)), (.dat (I f.m)), (.dat (I f.s)), (.dat (.sl 2 (f.t.map encTrain)))])), (36, (.row 38 2 (([] : List Pay).map encPay)))]) (True ∧ True ∧ True) (by kernel_rfl) ⟨trivial, trivial, trivial⟩ rfl ?_
            refine TL_nilQ ?_
            exact QE_turn [1, 2, 6, 8, 36, 37, 39, 40] [] [2, 36] (by kernel_rfl) (by decide) (by kernel_rfl)
          refine Edges.cons (by decide) ?_ ?_
          · skip
            refine TL_part 1 [] (mk 99 [(1, (dt (I s))), (2, (.one (.ref 2 0))), (6, (dt (.sl 2 ((shares f).map encPay)))), (8, (dt (I (profit f).1))), (36, (.one (.own 36))), (37, (dt (.sl 2 ((shares f).map encPay)))), (39, (.one (.ref 2 2))), (41, (dt (I (profit f).1)))] [(2, (.var [(.dat (I f.a)), (.dat (I f.p)), (.dat (I f.m)), (.dat (I f.s)), (.dat (.sl 2 (f.t.map encTrain)))])), (36, (.row 38 2 (([] : List Pay).map encPay)))]) (True ∧ True ∧ True) (by kernel_rfl) ⟨trivial, trivial, trivial⟩ rfl ?_
            refine TL_nilQ ?_
            exact QE_turn [1, 2, 6, 8, 36, 37, 39, 41] [] [2, 36] (by kernel_rfl) (by decide) (by kernel_rfl)
          refine Edges.cons (by decide) ?_ ?_
          · skip
            refine TL_part 1 [{ d := some (.sl 2 ((shares f).map encPay)) }] (mk 99 [(1, (dt (I s))), (2, (.one (.ref 2 0))), (6, (dt (.sl 2 ((shares f).map encPay)))), (8, (dt (I (profit f).1))), (37, (dt (.sl 2 ((shares f).map encPay)))), (38, (.one (.own 38))), (41, (dt (I (profit f).1)))] [(38, (.row 38 2 ((shares f).map encPay))), (2, (.var [(.dat (I f.a)), (.dat (I f.p)), (.dat (I f.m)), (.dat (I f.s)), (.dat (.sl 2 (f.t.map encTrain)))]))]) (True ∧ (((([] : List Pay).map encPay).length + ((shares f).map encPay).length) * 16 ≤ 140737488355328 ∧ cellsOne ((shares f).map encPay) ∧ (([] : List Pay).map encPay) ++ (shares f).map encPay = (shares f).map encPay) ∧ True) (by kernel_rfl) ⟨trivial, ⟨by simp only [List.length_map, List.length_nil, List.length_cons]; first | omega | (simp only [List.length_append, List.length_cons, List.length_nil]; omega), encPay_one _, by simp⟩, trivial⟩ rfl ?_
            refine TL_nilQ ?_
            exact QE_turn [1, 2, 6, 8, 37, 38, 41] [] [2, 38] (by kernel_rfl) (by decide) (by kernel_rfl)
          refine Edges.cons (by decide) ?_ ?_
          · skip
            refine TL_part 1 [] (mk 99 [(1, (dt (I s))), (2, (.one (.ref 2 0))), (6, (dt (.sl 2 ((shares f).map encPay)))), (8, (dt (I (profit f).1))), (36, (.one (.own 36))), (37, (dt (.sl 2 ((shares f).map encPay)))), (39, (.one (.ref 2 2))), (41, (dt (I (profit f).1)))] [(2, (.var [(.dat (I f.a)), (.dat (I f.p)), (.dat (I f.m)), (.dat (I f.s)), (.dat (.sl 2 (f.t.map encTrain)))])), (36, (.row 38 2 (([] : List Pay).map encPay)))]) (True ∧ True ∧ True) (by kernel_rfl) ⟨trivial, trivial, trivial⟩ rfl ?_
            refine TL_nilQ ?_
            exact QE_turn [1, 2, 6, 8, 36, 37, 39, 41] [] [2, 36] (by kernel_rfl) (by decide) (by kernel_rfl)
          refine Edges.cons (by decide) ?_ ?_
          · skip
            refine TL_part 1 [] (mk 99 [(1, (dt (I s))), (2, (.one (.ref 2 0))), (6, (dt (.sl 2 ((shares f).map encPay)))), (8, (dt (I (profit f).1))), (36, (.one (.own 36))), (37, (dt (.sl 2 ((shares f).map encPay)))), (39, (.one (.ref 2 2))), (40, (dt (I f.m)))] [(2, (.var [(.dat (I f.a)), (.dat (I f.p)), (.dat (I f.m)), (.dat (I f.s)), (.dat (.sl 2 (f.t.map encTrain)))])), (36, (.row 38 2 (([] : List Pay).map encPay)))]) (True ∧ True ∧ True) (by kernel_rfl) ⟨trivial, trivial, trivial⟩ rfl ?_
            refine TL_nilQ ?_
            exact QE_turn [1, 2, 6, 8, 36, 37, 39, 40] [] [2, 36] (by kernel_rfl) (by decide) (by kernel_rfl)
          refine Edges.cons (by decide) ?_ ?_
          · skip
            refine TL_part 1 [] (mk 99 [(1, (dt (I s))), (2, (.one (.ref 2 0))), (6, (dt (.sl 2 ((shares f).map encPay)))), (8, (dt (I (profit f).1))), (36, (.one (.own 36))), (39, (.one (.ref 2 2))), (40, (dt (I f.m))), (41, (dt (I (profit f).1)))] [(2, (.var [(.dat (I f.a)), (.dat (I f.p)), (.dat (I f.m)), (.dat (I f.s)), (.dat (.sl 2 (f.t.map encTrain)))])), (36, (.row 38 2 (([] : List Pay).map encPay)))]) (True ∧ True ∧ True) (by kernel_rfl) ⟨trivial, trivial, trivial⟩ rfl ?_
            refine TL_nilQ ?_
            exact QE_turn [1, 2, 6, 8, 36, 39, 40, 41] [] [2, 36] (by kernel_rfl) (by decide) (by kernel_rfl)
          refine Edges.cons (by decide) ?_ ?_
          · skip
            refine TL_part 1 [] (mk 99 [(1, (dt (I s))), (2, (.one (.ref 2 0))), (6, (dt (.sl 2 ((shares f).map encPay)))), (8, (dt (I (profit f).1))), (36, (.one (.own 36))), (37, (dt (.sl 2 ((shares f).map encPay)))), (39, (.one (.ref 2 2))), (41, (dt (I (profit f).1)))] [(2, (.var [(.dat (I f.a)), (.dat (I f.p)), (.dat (I f.m)), (.dat (I f.s)), (.dat (.sl 2 (f.t.map encTrain)))])), (36, (.row 38 2 (([] : List Pay).map encPay)))]) (True ∧ True ∧ True) (by kernel_rfl) ⟨trivial, trivial, trivial⟩ rfl ?_
            refine TL_nilQ ?_
            exact QE_turn [1, 2, 6, 8, 36, 37, 39, 41] [] [2, 36] (by kernel_rfl) (by decide) (by kernel_rfl)
          refine Edges.cons (by decide) ?_ ?_
          · skip
            refine TL_part 1 [] (mk 99 [(1, (dt (I s))), (2, (.one (.ref 2 0))), (6, (dt (.sl 2 ((shares f).map encPay)))), (8, (dt (I (profit f).1))), (36, (.one (.own 36))), (39, (.one (.ref 2 2))), (40, (dt (I f.m))), (41, (dt (I (profit f).1)))] [(2, (.var [(.dat (I f.a)), (.dat (I f.p)), (.dat (I f.m)), (.dat (I f.s)), (.dat (.sl 2 (f.t.map encTrain)))])), (36, (.row 38 2 (([] : List Pay).map encPay)))]) (True ∧ True ∧ True) (by kernel_rfl) ⟨trivial, trivial, trivial⟩ rfl ?_
            refine TL_nilQ ?_
            exact QE_turn [1, 2, 6, 8, 36, 39, 40, 41] [] [2, 36] (by kernel_rfl) (by decide) (by kernel_rfl)
          refine Edges.cons (by decide) ?_ ?_
          · skip
            refine TL_part 1 [] (mk 99 [(1, (dt (I s))), (2, (.one (.ref 2 0))), (6, (dt (.sl 2 ((shares f).map encPay)))), (8, (dt (I (profit f).1))), (36, (.one (.own 36))), (37, (dt (.sl 2 ((shares f).map encPay)))), (39, (.one (.ref 2 2))), (40, (dt (I f.m)))] [(36, (.row 38 2 (([] : List Pay).map encPay))), (2, (.var [(.dat (I f.a)), (.dat (I f.p)), (.dat (I f.m)), (.dat (I f.s)), (.dat (.sl 2 (f.t.map encTrain)))]))]) (True ∧ (dfill (fun i => some (i * 2, 2)) (List.replicate (0 * 2) .junk) [] = some ((flat (([] : List Pay).map encPay)).map .dat)) ∧ True) (by kernel_rfl) ⟨trivial, rfl, trivial⟩ rfl ?_
            refine TL_nilQ ?_
            exact QE_turn [1, 2, 6, 8, 36, 37, 39, 40] [] [2, 36] (by kernel_rfl) (by decide) (by kernel_rfl)
          refine Edges.cons (by decide) ?_ ?_
          · skip
            refine TL_part 1 [] (mk 99 [(1, (dt (I s))), (2, (.one (.ref 2 0))), (6, (dt (.sl 2 ((shares f).map encPay)))), (8, (dt (I (profit f).1))), (37, (dt (.sl 2 ((shares f).map encPay)))), (39, (.one (.ref 2 2))), (40, (dt (I f.m))), (41, (dt (I (profit f).1)))] [(2, (.var [(.dat (I f.a)), (.dat (I f.p)), (.dat (I f.m)), (.dat (I f.s)), (.dat (.sl 2 (f.t.map encTrain)))]))]) (True ∧ True ∧ True) (by kernel_rfl) ⟨trivial, trivial, trivial⟩ rfl ?_
            refine TL_nilQ ?_
            exact QE_turn [1, 2, 6, 8, 37, 39, 40, 41] [] [2] (by kernel_rfl) (by decide) (by kernel_rfl)
          refine Edges.cons (by decide) ?_ ?_
          · skip
            refine TL_part 1 [] (mk 99 [(1, (dt (I s))), (2, (.one (.ref 2 0))), (6, (dt (.sl 2 ((shares f).map encPay)))), (8, (dt (I (profit f).1))), (36, (.one (.own 36))), (37, (dt (.sl 2 ((shares f).map encPay)))), (39, (.one (.ref 2 2))), (41, (dt (I (profit f).1)))] [(36, (.row 38 2 (([] : List Pay).map encPay))), (2, (.var [(.dat (I f.a)), (.dat (I f.p)), (.dat (I f.m)), (.dat (I f.s)), (.dat (.sl 2 (f.t.map encTrain)))]))]) (True ∧ (dfill (fun i => some (i * 2, 2)) (List.replicate (0 * 2) .junk) [] = some ((flat (([] : List Pay).map encPay)).map .dat)) ∧ True) (by kernel_rfl) ⟨trivial, rfl, trivial⟩ rfl ?_
            refine TL_nilQ ?_
            exact QE_turn [1, 2, 6, 8, 36, 37, 39, 41] [] [2, 36] (by kernel_rfl) (by decide) (by kernel_rfl)
          refine Edges.cons (by decide) ?_ ?_
          · skip
            refine TL_part 1 [] (mk 99 [(1, (dt (I s))), (2, (.one (.ref 2 0))), (6, (dt (.sl 2 ((shares f).map encPay)))), (8, (dt (I (profit f).1))), (37, (dt (.sl 2 ((shares f).map encPay)))), (39, (.one (.ref 2 2))), (40, (dt (I f.m))), (41, (dt (I (profit f).1)))] [(2, (.var [(.dat (I f.a)), (.dat (I f.p)), (.dat (I f.m)), (.dat (I f.s)), (.dat (.sl 2 (f.t.map encTrain)))]))]) (True ∧ True ∧ True) (by kernel_rfl) ⟨trivial, trivial, trivial⟩ rfl ?_
            refine TL_nilQ ?_
            exact QE_turn [1, 2, 6, 8, 37, 39, 40, 41] [] [2] (by kernel_rfl) (by decide) (by kernel_rfl)
          refine Edges.cons (by decide) ?_ ?_
          · skip
            refine TL_part 1 [] (mk 99 [(1, (dt (I s))), (2, (.one (.ref 2 0))), (6, (dt (.sl 2 ((shares f).map encPay)))), (8, (dt (I (profit f).1))), (36, (.one (.own 36))), (39, (.one (.ref 2 2))), (40, (dt (I f.m))), (41, (dt (I (profit f).1)))] [(36, (.row 38 2 (([] : List Pay).map encPay))), (2, (.var [(.dat (I f.a)), (.dat (I f.p)), (.dat (I f.m)), (.dat (I f.s)), (.dat (.sl 2 (f.t.map encTrain)))]))]) (True ∧ (dfill (fun i => some (i * 2, 2)) (List.replicate (0 * 2) .junk) [] = some ((flat (([] : List Pay).map encPay)).map .dat)) ∧ True) (by kernel_rfl) ⟨trivial, rfl, trivial⟩ rfl ?_
            refine TL_nilQ ?_
            exact QE_turn [1, 2, 6, 8, 36, 39, 40, 41] [] [2, 36] (by kernel_rfl) (by decide) (by kernel_rfl)
          refine Edges.cons (by decide) ?_ ?_
          · skip
            refine TL_part 1 [] (mk 99 [(1, (dt (I s))), (2, (.one (.ref 2 0))), (6, (dt (.sl 2 ((shares f).map encPay)))), (8, (dt (I (profit f).1))), (37, (dt (.sl 2 ((shares f).map encPay)))), (39, (.one (.ref 2 2))), (40, (dt (I f.m))), (41, (dt (I (profit f).1)))] [(2, (.var [(.dat (I f.a)), (.dat (I f.p)), (.dat (I f.m)), (.dat (I f.s)), (.dat (.sl 2 (f.t.map encTrain)))]))]) (True ∧ True ∧ True) (by kernel_rfl) ⟨trivial, trivial, trivial⟩ rfl ?_
            refine TL_nilQ ?_
            exact QE_turn [1, 2, 6, 8, 37, 39, 40, 41] [] [2] (by kernel_rfl) (by decide) (by kernel_rfl)
          refine Edges.cons (by decide) ?_ ?_
          · skip
            refine TL_part 1 [] (mk 99 [(1, (dt (I s))), (2, (.one (.ref 2 0))), (6, (dt (.sl 2 ((shares f).map encPay)))), (8, (dt (I (profit f).1))), (39, (.one (.ref 2 2))), (40, (dt (I f.m))), (41, (dt (I (profit f).1))), (42, (.agg [(.dat (I f.m)), (.dat (I (profit f).1))]))] [(2, (.var [(.dat (I f.a)), (.dat (I f.p)), (.dat (I f.m)), (.dat (I f.s)), (.dat (.sl 2 (f.t.map encTrain)))]))]) (True ∧ True ∧ True) (by kernel_rfl) ⟨trivial, trivial, trivial⟩ rfl ?_
            refine TL_nilQ ?_
            exact QE_turn [1, 2, 6, 8, 39, 40, 41, 42] [] [2] (by kernel_rfl) (by decide) (by kernel_rfl)
          refine Edges.cons (by decide) ?_ ?_
          · skip
            refine TL_part 1 [] (mk 99 [(1, (dt (I s))), (2, (.one (.ref 2 0))), (6, (dt (.sl 2 ((shares f).map encPay)))), (8, (dt (I (profit f).1))), (37, (dt (.sl 2 ((shares f).map encPay)))), (38, (.one (.own 38))), (39, (.one (.ref 2 2))), (40, (dt (I f.m)))] [(2, (.var [(.dat (I f.a)), (.dat (I f.p)), (.dat (I f.m)), (.dat (I f.s)), (.dat (.sl 2 (f.t.map encTrain)))])), (38, (.row 38 2 ((shares f).map encPay)))]) (True ∧ True ∧ True) (by kernel_rfl) ⟨trivial, trivial, trivial⟩ rfl ?_
            refine TL_nilQ ?_
            exact QE_turn [1, 2, 6, 8, 37, 38, 39, 40] [] [2, 38] (by kernel_rfl) (by decide) (by kernel_rfl)
          refine Edges.cons (by decide) ?_ ?_
          · skip
            refine TL_part 1 [] (mk 99 [(1, (dt (I s))), (2, (.one (.ref 2 0))), (6, (dt (.sl 2 ((shares f).map encPay)))), (8, (dt (I (profit f).1))), (37, (dt (.sl 2 ((shares f).map encPay)))), (38, (.one (.own 38))), (39, (.one (.ref 2 2))), (41, (dt (I (profit f).1)))] [(2, (.var [(.dat (I f.a)), (.dat (I f.p)), (.dat (I f.m)), (.dat (I f.s)), (.dat (.sl 2 (f.t.map encTrain)))])), (38, (.row 38 2 ((shares f).map encPay)))]) (True ∧ True ∧ True) (by kernel_rfl) ⟨trivial, trivial, trivial⟩ rfl ?_
            refine TL_nilQ ?_
            exact QE_turn [1, 2, 6, 8, 37, 38, 39, 41] [] [2, 38] (by kernel_rfl) (by decide) (by kernel_rfl)
          refine Edges.cons (by decide) ?_ ?_
          · skip
            refine TL_part 1 [] (mk 99 [(1, (dt (I s))), (2, (.one (.ref 2 0))), (6, (dt (.sl 2 ((shares f).map encPay)))), (8, (dt (I (profit f).1))), (37, (dt (.sl 2 ((shares f).map encPay)))), (38, (.one (.own 38))), (39, (.one (.ref 2 2))), (41, (dt (I (profit f).1)))] [(2, (.var [(.dat (I f.a)), (.dat (I f.p)), (.dat (I f.m)), (.dat (I f.s)), (.dat (.sl 2 (f.t.map encTrain)))])), (38, (.row 38 2 ((shares f).map encPay)))]) (True ∧ True ∧ True) (by kernel_rfl) ⟨trivial, trivial, trivial⟩ rfl ?_
            refine TL_nilQ ?_
            exact QE_turn [1, 2, 6, 8, 37, 38, 39, 41] [] [2, 38] (by kernel_rfl) (by decide) (by kernel_rfl)
          refine Edges.cons (by decide) ?_ ?_
          · skip
            refine TL_part 1 [{ d := some (.sl 2 ((shares f).map encPay)) }] (mk 99 [(1, (dt (I s))), (2, (.one (.ref 2 0))), (6, (dt (.sl 2 ((shares f).map encPay)))), (8, (dt (I (profit f).1))), (37, (dt (.sl 2 ((shares f).map encPay)))), (38, (.one (.own 38))), (39, (.one (.ref 2 2))), (40, (dt (I f.m)))] [(38, (.row 38 2 ((shares f).map encPay))), (2, (.var [(.dat (I f.a)), (.dat (I f.p)), (.dat (I f.m)), (.dat (I f.s)), (.dat (.sl 2 (f.t.map encTrain)))]))]) (True ∧ (((([] : List Pay).map encPay).length + ((shares f).map encPay).length) * 16 ≤ 140737488355328 ∧ cellsOne ((shares f).map encPay) ∧ (([] : List Pay).map encPay) ++ (shares f).map encPay = (shares f).map encPay) ∧ True) (by kernel_rfl) ⟨trivial, ⟨by simp only [List.length_map, List.length_nil, List.length_cons]; first | omega | (simp only [List.length_append, List.length_cons, List.length_nil]; omega), encPay_one _, by simp⟩, trivial⟩ rfl ?_
            refine TL_nilQ ?_
            exact QE_turn [1, 2, 6, 8, 37, 38, 39, 40] [] [2, 38] (by kernel_rfl) (by decide) (by kernel_rfl)
          refine Edges.cons (by decide) ?_ ?_
          · skip
            refine TL_part 1 [] (mk 99 [(1, (dt (I s))), (2, (.one (.ref 2 0))), (6, (dt (.sl 2 ((shares f).map encPay)))), (8, (dt (I (profit f).1))), (36, (.one (.own 36))), (37, (dt (.sl 2 ((shares f).map encPay)))), (39, (.one (.ref 2 2))), (40, (dt (I f.m))), (41, (dt (I (profit f).1)))] [(2, (.var [(.dat (I f.a)), (.dat (I f.p)), (.dat (I f.m)), (.dat (I f.s)), (.dat (.sl 2 (f.t.map encTrain)))])), (36, (.row 38 2 (([] : List Pay).map encPay)))]) (True ∧ True ∧ True) (by kernel_rfl) ⟨trivial, trivial, trivial⟩ rfl ?_
            refine TL_nilQ ?_
            exact QE_turn [1, 2, 6, 8, 36, 37, 39, 40, 41] [] [2, 36] (by kernel_rfl) (by decide) (by kernel_rfl)
          refine Edges.cons (by decide) ?_ ?_
          · skip
            refine TL_part 1 [{ d := some (.sl 2 ((shares f).map encPay)) }] (mk 99 [(1, (dt (I s))), (2, (.one (.ref 2 0))), (6, (dt (.sl 2 ((shares f).map encPay)))), (8, (dt (I (profit f).1))), (37, (dt (.sl 2 ((shares f).map encPay)))), (38, (.one (.own 38))), (39, (.one (.ref 2 2))), (41, (dt (I (profit f).1)))] [(38, (.row 38 2 ((shares f).map encPay))), (2, (.var [(.dat (I f.a)), (.dat (I f.p)), (.dat (I f.m)), (.dat (I f.s)), (.dat (.sl 2 (f.t.map encTrain)))]))]) (True ∧ (((([] : List Pay).map encPay).length + ((shares f).map encPay).length) * 16 ≤ 140737488355328 ∧ cellsOne ((shares f).map encPay) ∧ (([] : List Pay).map encPay) ++ (shares f).map encPay = (shares f).map encPay) ∧ True) (by kernel_rfl) ⟨trivial, ⟨by simp only [List.length_map, List.length_nil, List.length_cons]; first | omega | (simp only [List.length_append, List.length_cons, List.length_nil]; omega), encPay_one _, by simp⟩, trivial⟩ rfl ?_
            refine TL_nilQ ?_
            exact QE_turn [1, 2, 6, 8, 37, 38, 39, 41] [] [2, 38] (by kernel_rfl) (by decide) (by kernel_rfl)
          refine Edges.cons (by decide) ?_ ?_
          · skip
            refine TL_part 1 [] (mk 99 [(1, (dt (I s))), (2, (.one (.ref 2 0))), (6, (dt (.sl 2 ((shares f).map encPay)))), (8, (dt (I (profit f).1))), (36, (.one (.own 36))), (37, (dt (.sl 2 ((shares f).map encPay)))), (39, (.one (.ref 2 2))), (40, (dt (I f.m))), (41, (dt (I (profit f).1)))] [(2, (.var [(.dat (I f.a)), (.dat (I f.p)), (.dat (I f.m)), (.dat (I f.s)), (.dat (.sl 2 (f.t.map encTrain)))])), (36, (.row 38 2 (([] : List Pay).map encPay)))]) (True ∧ True ∧ True) (by kernel_rfl) ⟨trivial, trivial, trivial⟩ rfl ?_
            refine TL_nilQ ?_
            exact QE_turn [1, 2, 6, 8, 36, 37, 39, 40, 41] [] [2, 36] (by kernel_rfl) (by decide) (by kernel_rfl)
          refine Edges.cons (by decide) ?_ ?_
          · skip
            refine TL_part 1 [] (mk 99 [(1, (dt (I s))), (2, (.one (.ref 2 0))), (6, (dt (.sl 2 ((shares f).map encPay)))), (8, (dt (I (profit f).1))), (36, (.one (.own 36))), (37, (dt (.sl 2 ((shares f).map encPay)))), (39, (.one (.ref 2 2))), (40, (dt (I f.m))), (41, (dt (I (profit f).1)))] [(2, (.var [(.dat (I f.a)), (.dat (I f.p)), (.dat (I f.m)), (.dat (I f.s)), (.dat (.sl 2 (f.t.map encTrain)))])), (36, (.row 38 2 (([] : List Pay).map encPay)))]) (True ∧ True ∧ True) (by kernel_rfl) ⟨trivial, trivial, trivial⟩ rfl ?_
            refine TL_nilQ ?_
            exact QE_turn [1, 2, 6, 8, 36, 37, 39, 40, 41] [] [2, 36] (by kernel_rfl) (by decide) (by kernel_rfl)
          refine Edges.cons (by decide) ?_ ?_
          · skip
            refine TL_part 1 [] (mk 99 [(1, (dt (I s))), (2, (.one (.ref 2 0))), (6, (dt (.sl 2 ((shares f).map encPay)))), (8, (dt (I (profit f).1))), (36, (.one (.own 36))), (39, (.one (.ref 2 2))), (40, (dt (I f.m))), (41, (dt (I (profit f).1))), (42, (.agg [(.dat (I f.m)), (.dat (I (profit f).1))]))] [(2, (.var [(.dat (I f.a)), (.dat (I f.p)), (.dat (I f.m)), (.dat (I f.s)), (.dat (.sl 2 (f.t.map encTrain)))])), (36, (.row 38 2 (([] : List Pay).map encPay)))]) (True ∧ True ∧ True) (by kernel_rfl) ⟨trivial, trivial, trivial⟩ rfl ?_
            refine TL_nilQ ?_
            exact QE_turn [1, 2, 6, 8, 36, 39, 40, 41, 42] [] [2, 36] (by kernel_rfl) (by decide) (by kernel_rfl)
          refine Edges.cons (by decide) ?_ ?_
          · skip
            refine TL_part 1 [] (mk 99 [(1, (dt (I s))), (2, (.one (.ref 2 0))), (6, (dt (.sl 2 ((shares f).map encPay)))), (8, (dt (I (profit f).1))), (36, (.one (.own 36))), (37, (dt (.sl 2 ((shares f).map encPay)))), (39, (.one (.ref 2 2))), (40, (dt (I f.m))), (41, (dt (I (profit f).1)))] [(36, (.row 38 2 (([] : List Pay).map encPay))), (2, (.var [(.dat (I f.a)), (.dat (I f.p)), (.dat (I f.m)), (.dat (I f.s)), (.dat (.sl 2 (f.t.map encTrain)))]))]) (True ∧ (dfill (fun i => some (i * 2, 2)) (List.replicate (0 * 2) .junk) [] = some ((flat (([] : List Pay).map encPay)).map .dat)) ∧ True) (by kernel_rfl) ⟨trivial, rfl, trivial⟩ rfl ?_
            refine TL_nilQ ?_
            exact QE_turn [1, 2, 6, 8, 36, 37, 39, 40, 41] [] [2, 36] (by kernel_rfl) (by decide) (by kernel_rfl)
          refine Edges.cons (by decide) ?_ ?_
          · skip
            refine TL_part 1 [] (mk 99 [(1, (dt (I s))), (2, (.one (.ref 2 0))), (6, (dt (.sl 2 ((shares f).map encPay)))), (8, (dt (I (profit f).1))), (37, (dt (.sl 2 ((shares f).map encPay)))), (39, (.one (.ref 2 2))), (40, (dt (I f.m))), (41, (dt (I (profit f).1))), (42, (.agg [(.dat (I f.m)), (.dat (I (profit f).1))]))] [(2, (.var [(.dat (I f.a)), (.dat (I f.p)), (.dat (I f.m)), (.dat (I f.s)), (.dat (.sl 2 (f.t.map encTrain)))]))]) (True ∧ True ∧ True) (by kernel_rfl) ⟨trivial, trivial, trivial⟩ rfl ?_
            refine TL_nilQ ?_
            exact QE_turn [1, 2, 6, 8, 37, 39, 40, 41, 42] [] [2] (by kernel_rfl) (by decide) (by kernel_rfl)
          refine Edges.cons (by decide) ?_ ?_
          · skip
            refine TL_part 1 [] (mk 99 [(1, (dt (I s))), (2, (.one (.ref 2 0))), (6, (dt (.sl 2 ((shares f).map encPay)))), (8, (dt (I (profit f).1))), (36, (.one (.own 36))), (39, (.one (.ref 2 2))), (40, (dt (I f.m))), (41, (dt (I (profit f).1))), (42, (.agg [(.dat (I f.m)), (.dat (I (profit f).1))]))] [(36, (.row 38 2 (([] : List Pay).map encPay))), (2, (.var [(.dat (I f.a)), (.dat (I f.p)), (.dat (I f.m)), (.dat (I f.s)), (.dat (.sl 2 (f.t.map encTrain)))]))]) (True ∧ (dfill (fun i => some (i * 2, 2)) (List.replicate (0 * 2) .junk) [] = some ((flat (([] : List Pay).map encPay)).map .dat)) ∧ True) (by kernel_rfl) ⟨trivial, rfl, trivial⟩ rfl ?_
            refine TL_nilQ ?_
            exact QE_turn [1, 2, 6, 8, 36, 39, 40, 41, 42] [] [2, 36] (by kernel_rfl) (by decide) (by kernel_rfl)
          refine Edges.cons (by decide) ?_ ?_
          · skip
            refine TL_part 1 [] (mk 99 [(1, (dt (I s))), (2, (.one (.ref 2 0))), (6, (dt (.sl 2 ((shares f).map encPay)))), (8, (dt (I (profit f).1))), (37, (dt (.sl 2 ((shares f).map encPay)))), (39, (.one (.ref 2 2))), (40, (dt (I f.m))), (41, (dt (I (profit f).1))), (42, (.agg [(.dat (I f.m)), (.dat (I (profit f).1))]))] [(2, (.var [(.dat (I f.a)), (.dat (I f.p)), (.dat (I f.m)), (.dat (I f.s)), (.dat (.sl 2 (f.t.map encTrain)))]))]) (True ∧ True ∧ True) (by kernel_rfl) ⟨trivial, trivial, trivial⟩ rfl ?_
            refine TL_nilQ ?_
            exact QE_turn [1, 2, 6, 8, 37, 39, 40, 41, 42] [] [2] (by kernel_rfl) (by decide) (by kernel_rfl)
          refine Edges.cons (by decide) ?_ ?_
          · skip
            refine TL_part 1 [] (mk 99 [(1, (dt (I s))), (2, (.one (.ref 2 0))), (6, (dt (.sl 2 ((shares f).map encPay)))), (8, (dt (I (profit f).1))), (39, (.one (.ref 2 2))), (40, (dt (I f.m))), (41, (dt (I (profit f).1))), (42, (.agg [(.dat (I f.m)), (.dat (I (profit f).1))])), (43, (.one (.own 43)))] [(43, (.row 38 2 ([(⟨f.m, (profit f).1⟩ : Pay)].map encPay))), (2, (.var [(.dat (I f.a)), (.dat (I f.p)), (.dat (I f.m)), (.dat (I f.s)), (.dat (.sl 2 (f.t.map encTrain)))]))]) (True ∧ (dfill (fun i => some (i * 2, 2)) (List.replicate (1 * 2) .junk) [(0, [(.dat (I f.m)), (.dat (I (profit f).1))])] = some ((flat ([(⟨f.m, (profit f).1⟩ : Pay)].map encPay)).map .dat)) ∧ True) (by kernel_rfl) ⟨trivial, rfl, trivial⟩ rfl ?_
            refine TL_nilQ ?_
            exact QE_turn [1, 2, 6, 8, 39, 40, 41, 42, 43] [] [2, 43] (by kernel_rfl) (by decide) (by kernel_rfl)
          refine Edges.cons (by decide) ?_ ?_
          · skip
            refine TL_part 1 [] (mk 99 [(1, (dt (I s))), (2, (.one (.ref 2 0))), (6, (dt (.sl 2 ((shares f).map encPay)))), (8, (dt (I (profit f).1))), (37, (dt (.sl 2 ((shares f).map encPay)))), (38, (.one (.own 38))), (39, (.one (.ref 2 2))), (40, (dt (I f.m))), (41, (dt (I (profit f).1)))] [(2, (.var [(.dat (I f.a)), (.dat (I f.p)), (.dat (I f.m)), (.dat (I f.s)), (.dat (.sl 2 (f.t.map encTrain)))])), (38, (.row 38 2 ((shares f).map encPay)))]) (True ∧ True ∧ True) (by kernel_rfl) ⟨trivial, trivial, trivial⟩ rfl ?_
            refine TL_nilQ ?_
            exact QE_turn [1, 2, 6, 8, 37, 38, 39, 40, 41] [] [2, 38] (by kernel_rfl) (by decide) (by kernel_rfl)
          refine Edges.cons (by decide) ?_ ?_
          · skip
            refine TL_part 1 [] (mk 99 [(1, (dt (I s))), (2, (.one (.ref 2 0))), (6, (dt (.sl 2 ((shares f).map encPay)))), (8, (dt (I (profit f).1))), (37, (dt (.sl 2 ((shares f).map encPay)))), (38, (.one (.own 38))), (39, (.one (.ref 2 2))), (40, (dt (I f.m))), (41, (dt (I (profit f).1)))] [(2, (.var [(.dat (I f.a)), (.dat (I f.p)), (.dat (I f.m)), (.dat (I f.s)), (.dat (.sl 2 (f.t.map encTrain)))])), (38, (.row 38 2 ((shares f).map encPay)))]) (True ∧ True ∧ True) (by kernel_rfl) ⟨trivial, trivial, trivial⟩ rfl ?_
            refine TL_nilQ ?_
            exact QE_turn [1, 2, 6, 8, 37, 38, 39, 40, 41] [] [2, 38] (by kernel_rfl) (by decide) (by kernel_rfl)
          refine Edges.cons (by decide) ?_ ?_
          · skip
            refine TL_part 1 [{ d := some (.sl 2 ((shares f).map encPay)) }] (mk 99 [(1, (dt (I s))), (2, (.one (.ref 2 0))), (6, (dt (.sl 2 ((shares f).map encPay)))), (8, (dt (I (profit f).1))), (37, (dt (.sl 2 ((shares f).map encPay)))), (38, (.one (.own 38))), (39, (.one (.ref 2 2))), (40, (dt (I f.m))), (41, (dt (I (profit f).1)))] [(38, (.row 38 2 ((shares f).map encPay))), (2, (.var [(.dat (I f.a)), (.dat (I f.p)), (.dat (I f.m)), (.dat (I f.s)), (.dat (.sl 2 (f.t.map encTrain)))]))]) (True ∧ (((([] : List Pay).map encPay).length + ((shares f).map encPay).length) * 16 ≤ 140737488355328 ∧ cellsOne ((shares f).map encPay) ∧ (([] : List Pay).map encPay) ++ (shares f).map encPay = (shares f).map encPay) ∧ True) (by kernel_rfl) ⟨trivial, ⟨by simp only [List.length_map, List.length_nil, List.length_cons]; first | omega | (simp only [List.length_append, List.length_cons, List.length_nil]; omega), encPay_one _, by simp⟩, trivial⟩ rfl ?_
            refine TL_nilQ ?_
            exact QE_turn [1, 2, 6, 8, 37, 38, 39, 40, 41] [] [2, 38] (by kernel_rfl) (by decide) (by kernel_rfl)
          refine Edges.cons (by decide) ?_ ?_
          · skip
            refine TL_part 1 [] (mk 99 [(1, (dt (I s))), (2, (.one (.ref 2 0))), (6, (dt (.sl 2 ((shares f).map encPay)))), (8, (dt (I (profit f).1))), (36, (.one (.own 36))), (37, (dt (.sl 2 ((shares f).map encPay)))), (39, (.one (.ref 2 2))), (40, (dt (I f.m))), (41, (dt (I (profit f).1))), (42, (.agg [(.dat (I f.m)), (.dat (I (profit f).1))]))] [(2, (.var [(.dat (I f.a)), (.dat (I f.p)), (.dat (I f.m)), (.dat (I f.s)), (.dat (.sl 2 (f.t.map encTrain)))])), (36, (.row 38 2 (([] : List Pay).map encPay)))]) (True ∧ True ∧ True) (by kernel_rfl) ⟨trivial, trivial, trivial⟩ rfl ?_
            refine TL_nilQ ?_
            exact QE_turn [1, 2, 6, 8, 36, 37, 39, 40, 41, 42] [] [2, 36] (by kernel_rfl) (by decide) (by kernel_rfl)
          refine Edges.cons (by decide) ?_ ?_
          · skip
            refine TL_part 1 [] (mk 99 [(1, (dt (I s))), (2, (.one (.ref 2 0))), (6, (dt (.sl 2 ((shares f).map encPay)))), (8, (dt (I (profit f).1))), (36, (.one (.own 36))), (37, (dt (.sl 2 ((shares f).map encPay)))), (39, (.one (.ref 2 2))), (40, (dt (I f.m))), (41, (dt (I (profit f).1))), (42, (.agg [(.dat (I f.m)), (.dat (I (profit f).1))]))] [(2, (.var [(.dat (I f.a)), (.dat (I f.p)), (.dat (I f.m)), (.dat (I f.s)), (.dat (.sl 2 (f.t.map encTrain)))])), (36, (.row 38 2 (([] : List Pay).map encPay)))]) (True ∧ True ∧ True) (by kernel_rfl) ⟨trivial, trivial, trivial⟩ rfl ?_
            refine TL_nilQ ?_
            exact QE_turn [1, 2, 6, 8, 36, 37, 39, 40, 41, 42] [] [2, 36] (by kernel_rfl) (by decide) (by kernel_rfl)
          refine Edges.cons (by decide) ?_ ?_
          · skip
            refine TL_part 1 [] (mk 99 [(1, (dt (I s))), (2, (.one (.ref 2 0))), (6, (dt (.sl 2 ((shares f).map encPay)))), (8, (dt (I (profit f).1))), (36, (.one (.own 36))), (39, (.one (.ref 2 2))), (40, (dt (I f.m))), (41, (dt (I (profit f).1))), (42, (.agg [(.dat (I f.m)), (.dat (I (profit f).1))])), (43, (.one (.own 43)))] [(43, (.row 38 2 ([(⟨f.m, (profit f).1⟩ : Pay)].map encPay))), (2, (.var [(.dat (I f.a)), (.dat (I f.p)), (.dat (I f.m)), (.dat (I f.s)), (.dat (.sl 2 (f.t.map encTrain)))])), (36, (.row 38 2 (([] : List Pay).map encPay)))]) (True ∧ (dfill (fun i => some (i * 2, 2)) (List.replicate (1 * 2) .junk) [(0, [(.dat (I f.m)), (.dat (I (profit f).1))])] = some ((flat ([(⟨f.m, (profit f).1⟩ : Pay)].map encPay)).map .dat)) ∧ True) (by kernel_rfl) ⟨trivial, rfl, trivial⟩ rfl ?_
            refine TL_nilQ ?_
            exact QE_turn [1, 2, 6, 8, 36, 39, 40, 41, 42, 43] [] [2, 36, 43] (by kernel_rfl) (by decide) (by kernel_rfl)
          refine Edges.cons (by decide) ?_ ?_
          · skip
            refine TL_part 1 [] (mk 99 [(1, (dt (I s))), (2, (.one (.ref 2 0))), (6, (dt (.sl 2 ((shares f).map encPay)))), (8, (dt (I (profit f).1))), (36, (.one (.own 36))), (37, (dt (.sl 2 ((shares f).map encPay)))), (39, (.one (.ref 2 2))), (40, (dt (I f.m))), (41, (dt (I (profit f).1))), (42, (.agg [(.dat (I f.m)), (.dat (I (profit f).1))]))] [(36, (.row 38 2 (([] : List Pay).map encPay))), (2, (.var [(.dat (I f.a)), (.dat (I f.p)), (.dat (I f.m)), (.dat (I f.s)), (.dat (.sl 2 (f.t.map encTrain)))]))]) (True ∧ (dfill (fun i => some (i * 2, 2)) (List.replicate (0 * 2) .junk) [] = some ((flat (([] : List Pay).map encPay)).map .dat)) ∧ True) (by kernel_rfl) ⟨trivial, rfl, trivial⟩ rfl ?_
            refine TL_nilQ ?_
            exact QE_turn [1, 2, 6, 8, 36, 37, 39, 40, 41, 42] [] [2, 36] (by kernel_rfl) (by decide) (by kernel_rfl)
          refine Edges.cons (by decide) ?_ ?_
          · skip
            refine TL_part 1 [] (mk 99 [(1, (dt (I s))), (2, (.one (.ref 2 0))), (6, (dt (.sl 2 ((shares f).map encPay)))), (8, (dt (I (profit f).1))), (37, (dt (.sl 2 ((shares f).map encPay)))), (39, (.one (.ref 2 2))), (40, (dt (I f.m))), (41, (dt (I (profit f).1))), (42, (.agg [(.dat (I f.m)), (.dat (I (profit f).1))])), (43, (.one (.own 43)))] [(43, (.row 38 2 ([(⟨f.m, (profit f).1⟩ : Pay)].map encPay))), (2, (.var [(.dat (I f.a)), (.dat (I f.p)), (.dat (I f.m)), (.dat (I f.s)), (.dat (.sl 2 (f.t.map encTrain)))]))]) (True ∧ (dfill (fun i => some (i * 2, 2)) (List.replicate (1 * 2) .junk) [(0, [(.dat (I f.m)), (.dat (I (profit f).1))])] = some ((flat ([(⟨f.m, (profit f).1⟩ : Pay)].map encPay)).map .dat)) ∧ True) (by kernel_rfl) ⟨trivial, rfl, trivial⟩ rfl ?_
            refine TL_nilQ ?_
            exact QE_turn [1, 2, 6, 8, 37, 39, 40, 41, 42, 43] [] [2, 43] (by kernel_rfl) (by decide) (by kernel_rfl)
          refine Edges.cons (by decide) ?_ ?_
          · skip
            refine TL_part 1 [] (mk 99 [(1, (dt (I s))), (2, (.one (.ref 2 0))), (6, (dt (.sl 2 ((shares f).map encPay)))), (8, (dt (I (profit f).1))), (36, (.one (.own 36))), (39, (.one (.ref 2 2))), (40, (dt (I f.m))), (41, (dt (I (profit f).1))), (42, (.agg [(.dat (I f.m)), (.dat (I (profit f).1))])), (43, (.one (.own 43)))] [(36, (.row 38 2 (([] : List Pay).map encPay))), (2, (.var [(.dat (I f.a)), (.dat (I f.p)), (.dat (I f.m)), (.dat (I f.s)), (.dat (.sl 2 (f.t.map encTrain)))])), (43, (.row 38 2 ([(⟨f.m, (profit f).1⟩ : Pay)].map encPay)))]) (True ∧ (dfill (fun i => some (i * 2, 2)) (List.replicate (0 * 2) .junk) [] = some ((flat (([] : List Pay).map encPay)).map .dat)) ∧ True) (by kernel_rfl) ⟨trivial, rfl, trivial⟩ rfl ?_
            refine TL_nilQ ?_
            exact QE_turn [1, 2, 6, 8, 36, 39, 40, 41, 42, 43] [] [2, 36, 43] (by kernel_rfl) (by decide) (by kernel_rfl)
          refine Edges.cons (by decide) ?_ ?_
          · skip
            refine TL_part 1 [] (mk 99 [(1, (dt (I s))), (2, (.one (.ref 2 0))), (6, (dt (.sl 2 ((shares f).map encPay)))), (8, (dt (I (profit f).1))), (37, (dt (.sl 2 ((shares f).map encPay)))), (39, (.one (.ref 2 2))), (40, (dt (I f.m))), (41, (dt (I (profit f).1))), (42, (.agg [(.dat (I f.m)), (.dat (I (profit f).1))])), (43, (.one (.own 43)))] [(2, (.var [(.dat (I f.a)), (.dat (I f.p)), (.dat (I f.m)), (.dat (I f.s)), (.dat (.sl 2 (f.t.map encTrain)))])), (43, (.row 38 2 ([(⟨f.m, (profit f).1⟩ : Pay)].map encPay)))]) (True ∧ True ∧ True) (by kernel_rfl) ⟨trivial, trivial, trivial⟩ rfl ?_
            refine TL_nilQ ?_
            exact QE_turn [1, 2, 6, 8, 37, 39, 40, 41, 42, 43] [] [2, 43] (by kernel_rfl) (by decide) (by kernel_rfl)
          refine Edges.cons (by decide) ?_ ?_
          · skip
            refine TL_part 1 [] (mk 99 [(1, (dt (I s))), (2, (.one (.ref 2 0))), (6, (dt (.sl 2 ((shares f).map encPay)))), (8, (dt (I (profit f).1))), (37, (dt (.sl 2 ((shares f).map encPay)))), (38, (.one (.own 38))), (39, (.one (.ref 2 2))), (40, (dt (I f.m))), (41, (dt (I (profit f).1))), (42, (.agg [(.dat (I f.m)), (.dat (I (profit f).1))]))] [(2, (.var [(.dat (I f.a)), (.dat (I f.p)), (.dat (I f.m)), (.dat (I f.s)), (.dat (.sl 2 (f.t.map encTrain)))])), (38, (.row 38 2 ((shares f).map encPay)))]) (True ∧ True ∧ True) (by kernel_rfl) ⟨trivial, trivial, trivial⟩ rfl ?_
            refine TL_nilQ ?_
            exact QE_turn [1, 2, 6, 8, 37, 38, 39, 40, 41, 42] [] [2, 38] (by kernel_rfl) (by decide) (by kernel_rfl)
          refine Edges.cons (by decide) ?_ ?_
          · skip
            refine TL_part 1 [{ d := some (.sl 2 ((shares f).map encPay)) }] (mk 99 [(1, (dt (I s))), (2, (.one (.ref 2 0))), (6, (dt (.sl 2 ((shares f).map encPay)))), (8, (dt (I (profit f).1))), (37, (dt (.sl 2 ((shares f).map encPay)))), (38, (.one (.own 38))), (39, (.one (.ref 2 2))), (40, (dt (I f.m))), (41, (dt (I (profit f).1))), (42, (.agg [(.dat (I f.m)), (.dat (I (profit f).1))]))] [(38, (.row 38 2 ((shares f).map encPay))), (2, (.var [(.dat (I f.a)), (.dat (I f.p)), (.dat (I f.m)), (.dat (I f.s)), (.dat (.sl 2 (f.t.map encTrain)))]))]) (True ∧ (((([] : List Pay).map encPay).length + ((shares f).map encPay).length) * 16 ≤ 140737488355328 ∧ cellsOne ((shares f).map encPay) ∧ (([] : List Pay).map encPay) ++ (shares f).map encPay = (shares f).map encPay) ∧ True) (by kernel_rfl) ⟨trivial, ⟨by simp only [List.length_map, List.length_nil, List.length_cons]; first | omega | (simp only [List.length_append, List.length_cons, List.length_nil]; omega), encPay_one _, by simp⟩, trivial⟩ rfl ?_
            refine TL_nilQ ?_
            exact QE_turn [1, 2, 6, 8, 37, 38, 39, 40, 41, 42] [] [2, 38] (by kernel_rfl) (by decide) (by kernel_rfl)
          refine Edges.cons (by decide) ?_ ?_
          · skip
            refine TL_part 1 [] (mk 99 [(1, (dt (I s))), (2, (.one (.ref 2 0))), (6, (dt (.sl 2 ((shares f).map encPay)))), (8, (dt (I (profit f).1))), (36, (.one (.own 36))), (37, (dt (.sl 2 ((shares f).map encPay)))), (39, (.one (.ref 2 2))), (40, (dt (I f.m))), (41, (dt (I (profit f).1))), (42, (.agg [(.dat (I f.m)), (.dat (I (profit f).1))])), (43, (.one (.own 43)))] [(43, (.row 38 2 ([(⟨f.m, (profit f).1⟩ : Pay)].map encPay))), (2, (.var [(.dat (I f.a)), (.dat (I f.p)), (.dat (I f.m)), (.dat (I f.s)), (.dat (.sl 2 (f.t.map encTrain)))])), (36, (.row 38 2 (([] : List Pay).map encPay)))]) (True ∧ (dfill (fun i => some (i * 2, 2)) (List.replicate (1 * 2) .junk) [(0, [(.dat (I f.m)), (.dat (I (profit f).1))])] = some ((flat ([(⟨f.m, (profit f).1⟩ : Pay)].map encPay)).map .dat)) ∧ True) (by kernel_rfl) ⟨trivial, rfl, trivial⟩ rfl ?_
            refine TL_nilQ ?_
            exact QE_turn [1, 2, 6, 8, 36, 37, 39, 40, 41, 42, 43] [] [2, 36, 43] (by kernel_rfl) (by decide) (by kernel_rfl)
          refine Edges.cons (by decide) ?_ ?_
          · skip
            refine TL_part 1 [] (mk 99 [(1, (dt (I s))), (2, (.one (.ref 2 0))), (6, (dt (.sl 2 ((shares f).map encPay)))), (8, (dt (I (profit f).1))), (36, (.one (.own 36))), (37, (dt (.sl 2 ((shares f).map encPay)))), (39, (.one (.ref 2 2))), (40, (dt (I f.m))), (41, (dt (I (profit f).1))), (42, (.agg [(.dat (I f.m)), (.dat (I (profit f).1))])), (43, (.one (.own 43)))] [(2, (.var [(.dat (I f.a)), (.dat (I f.p)), (.dat (I f.m)), (.dat (I f.s)), (.dat (.sl 2 (f.t.map encTrain)))])), (36, (.row 38 2 (([] : List Pay).map encPay))), (43, (.row 38 2 ([(⟨f.m, (profit f).1⟩ : Pay)].map encPay)))]) (True ∧ True ∧ True) (by kernel_rfl) ⟨trivial, trivial, trivial⟩ rfl ?_
            refine TL_nilQ ?_
            exact QE_turn [1, 2, 6, 8, 36, 37, 39, 40, 41, 42, 43] [] [2, 36, 43] (by kernel_rfl) (by decide) (by kernel_rfl)
          refine Edges.cons (by decide) ?_ ?_
          · skip
            refine TL_part 1 [] (mk 99 [(1, (dt (I s))), (2, (.one (.ref 2 0))), (6, (dt (.sl 2 ((shares f).map encPay)))), (8, (dt (I (profit f).1))), (36, (.one (.own 36))), (37, (dt (.sl 2 ((shares f).map encPay)))), (39, (.one (.ref 2 2))), (40, (dt (I f.m))), (41, (dt (I (profit f).1))), (42, (.agg [(.dat (I f.m)), (.dat (I (profit f).1))])), (43, (.one (.own 43)))] [(36, (.row 38 2 (([] : List Pay).map encPay))), (2, (.var [(.dat (I f.a)), (.dat (I f.p)), (.dat (I f.m)), (.dat (I f.s)), (.dat (.sl 2 (f.t.map encTrain)))])), (43, (.row 38 2 ([(⟨f.m, (profit f).1⟩ : Pay)].map encPay)))]) (True ∧ (dfill (fun i => some (i * 2, 2)) (List.replicate (0 * 2) .junk) [] = some ((flat (([] : List Pay).map encPay)).map .dat)) ∧ True) (by kernel_rfl) ⟨trivial, rfl, trivial⟩ rfl ?_
            refine TL_nilQ ?_
            exact QE_turn [1, 2, 6, 8, 36, 37, 39, 40, 41, 42, 43] [] [2, 36, 43] (by kernel_rfl) (by decide) (by kernel_rfl)
          refine Edges.cons (by decide) ?_ ?_
          · skip
            refine TL_part 1 [] (mk 99 [(1, (dt (I s))), (2, (.one (.ref 2 0))), (6, (dt (.sl 2 ((shares f).map encPay)))), (8, (dt (I (profit f).1))), (37, (dt (.sl 2 ((shares f).map encPay)))), (38, (.one (.own 38))), (39, (.one (.ref 2 2))), (40, (dt (I f.m))), (41, (dt (I (profit f).1))), (42, (.agg [(.dat (I f.m)), (.dat (I (profit f).1))])), (43, (.one (.own 43)))] [(43, (.row 38 2 ([(⟨f.m, (profit f).1⟩ : Pay)].map encPay))), (2, (.var [(.dat (I f.a)), (.dat (I f.p)), (.dat (I f.m)), (.dat (I f.s)), (.dat (.sl 2 (f.t.map encTrain)))])), (38, (.row 38 2 ((shares f).map encPay)))]) (True ∧ (dfill (fun i => some (i * 2, 2)) (List.replicate (1 * 2) .junk) [(0, [(.dat (I f.m)), (.dat (I (profit f).1))])] = some ((flat ([(⟨f.m, (profit f).1⟩ : Pay)].map encPay)).map .dat)) ∧ True) (by kernel_rfl) ⟨trivial, rfl, trivial⟩ rfl ?_
            refine TL_nilQ ?_
            exact QE_turn [1, 2, 6, 8, 37, 38, 39, 40, 41, 42, 43] [] [2, 38, 43] (by kernel_rfl) (by decide) (by kernel_rfl)
          refine Edges.cons (by decide) ?_ ?_
          · skip
            refine TL_part 1 [{ d := some (.sl 2 ((shares f).map encPay)) }] (mk 99 [(1, (dt (I s))), (2, (.one (.ref 2 0))), (6, (dt (.sl 2 ((shares f).map encPay)))), (8, (dt (I (profit f).1))), (37, (dt (.sl 2 ((shares f).map encPay)))), (38, (.one (.own 38))), (39, (.one (.ref 2 2))), (40, (dt (I f.m))), (41, (dt (I (profit f).1))), (42, (.agg [(.dat (I f.m)), (.dat (I (profit f).1))])), (43, (.one (.own 43)))] [(38, (.row 38 2 ((shares f).map encPay))), (2, (.var [(.dat (I f.a)), (.dat (I f.p)), (.dat (I f.m)), (.dat (I f.s)), (.dat (.sl 2 (f.t.map encTrain)))])), (43, (.row 38 2 ([(⟨f.m, (profit f).1⟩ : Pay)].map encPay)))]) (True ∧ (((([] : List Pay).map encPay).length + ((shares f).map encPay).length) * 16 ≤ 140737488355328 ∧ cellsOne ((shares f).map encPay) ∧ (([] : List Pay).map encPay) ++ (shares f).map encPay = (shares f).map encPay) ∧ True) (by kernel_rfl) ⟨trivial, ⟨by simp only [List.length_map, List.length_nil, List.length_cons]; first | omega | (simp only [List.length_append, List.length_cons, List.length_nil]; omega), encPay_one _, by simp⟩, trivial⟩ rfl ?_
            refine TL_nilQ ?_
            exact QE_turn [1, 2, 6, 8, 37, 38, 39, 40, 41, 42, 43] [] [2, 38, 43] (by kernel_rfl) (by decide) (by kernel_rfl)
          refine Edges.cons (by decide) ?_ ?_
          · skip
            refine TL_part 1 [{ d := some (.sl 2 (((shares f) ++ [(⟨f.m, (profit f).1⟩ : Pay)]).map encPay)) }] (mk 99 [(1, (dt (I s))), (2, (.one (.ref 2 0))), (6, (dt (.sl 2 ((shares f).map encPay)))), (8, (dt (I (profit f).1))), (37, (dt (.sl 2 ((shares f).map encPay)))), (39, (.one (.ref 2 2))), (40, (dt (I f.m))), (41, (dt (I (profit f).1))), (42, (.agg [(.dat (I f.m)), (.dat (I (profit f).1))])), (43, (.one (.own 43))), (44, (.one (.own 44)))] [(44, (.row 38 2 (((shares f) ++ [(⟨f.m, (profit f).1⟩ : Pay)]).map encPay))), (2, (.var [(.dat (I f.a)), (.dat (I f.p)), (.dat (I f.m)), (.dat (I f.s)), (.dat (.sl 2 (f.t.map encTrain)))])), (43, (.row 38 2 ([(⟨f.m, (profit f).1⟩ : Pay)].map encPay)))]) (True ∧ ((((shares f).map encPay).length + ([(⟨f.m, (profit f).1⟩ : Pay)].map encPay).length) * 16 ≤ 140737488355328 ∧ cellsOne ([(⟨f.m, (profit f).1⟩ : Pay)].map encPay) ∧ ((shares f).map encPay) ++ [(⟨f.m, (profit f).1⟩ : Pay)].map encPay = ((shares f) ++ [(⟨f.m, (profit f).1⟩ : Pay)]).map encPay) ∧ True) (by kernel_rfl) ⟨trivial, ⟨by simp only [List.length_map, List.length_nil, List.length_cons]; first | omega | (simp only [List.length_append, List.length_cons, List.length_nil]; omega), encPay_one _, by simp⟩, trivial⟩ rfl ?_
            refine TL_nilQ ?_
            exact QE_turn [1, 2, 6, 8, 37, 39, 40, 41, 42, 43, 44] [] [2, 43, 44] (by kernel_rfl) (by decide) (by kernel_rfl)
          refine Edges.cons (by decide) ?_ ?_
          · skip
            refine TL_part 1 [] (mk 99 [(1, (dt (I s))), (2, (.one (.ref 2 0))), (6, (dt (.sl 2 ((shares f).map encPay)))), (8, (dt (I (profit f).1))), (10, (.one (.own 44))), (37, (dt (.sl 2 ((shares f).map encPay)))), (39, (.one (.ref 2 2))), (40, (dt (I f.m))), (41, (dt (I (profit f).1))), (42, (.agg [(.dat (I f.m)), (.dat (I (profit f).1))])), (43, (.one (.own 43))), (44, (.one (.own 44)))] [(2, (.var [(.dat (I f.a)), (.dat (I f.p)), (.dat (I f.m)), (.dat (I f.s)), (.dat (.sl 2 (f.t.map encTrain)))])), (43, (.row 38 2 ([(⟨f.m, (profit f).1⟩ : Pay)].map encPay))), (44, (.row 38 2 (((shares f) ++ [(⟨f.m, (profit f).1⟩ : Pay)]).map encPay)))]) (True ∧ True ∧ True) (by kernel_rfl) ⟨trivial, trivial, trivial⟩ rfl ?_
            refine TL_nilQ ?_
            exact QE_turn [1, 2, 6, 8, 10, 37, 39, 40, 41, 42, 43, 44] [] [2, 43, 44] (by kernel_rfl) (by decide) (by kernel_rfl)
          exact trivial
        refine T_turn [] [1, 2, 10] [43] (mk 99 [(1, (dt (I s))), (2, (.one (.ref 2 0))), (10, (.one (.own 44)))] [(2, (.var [(.dat (I f.a)), (.dat (I f.p)), (.dat (I f.m)), (.dat (I f.s)), (.dat (.sl 2 (f.t.map encTrain)))])), (44, (.row 38 2 (((shares f) ++ [(⟨f.m, (profit f).1⟩ : Pay)]).map encPay)))]) (by kernel_rfl) ?_
        refine T_reg [] [1, 10, 11] [2] (mk 99 [(1, (dt (I s))), (10, (.one (.own 44))), (11, (dt (I f.a)))] [(44, (.row 38 2 (((shares f) ++ [(⟨f.m, (profit f).1⟩ : Pay)]).map encPay)))]) (True ∧ True ∧ True ∧ True ∧ True ∧ True ∧ True) (by kernel_rfl) ⟨trivial, trivial, trivial, trivial, trivial, trivial, trivial⟩ ?_
        refine T_seq ?_
        refine T_reg [] [1, 10, 11, 12] [] (mk 99 [(1, (dt (I s))), (10, (.one (.own 44))), (11, (dt (I f.a))), (12, (dt (I 0)))] [(44, (.row 38 2 (((shares f) ++ [(⟨f.m, (profit f).1⟩ : Pay)]).map encPay)))]) (True ∧ True ∧ True) (by kernel_rfl) ⟨trivial, trivial, trivial⟩ ?_
        refine T_block ?_
        refine T_turn [] [1, 10, 11, 12] [] ((fun ((k, r) : Nat × Int) => (mk 99 [(1, (dt (I s))), (10, (.one (.own 44))), (11, (dt (I r))), (12, (dt (I ((k : Nat) : Int))))] [(44, (.row 38 2 (((shares f) ++ [(⟨f.m, (profit f).1⟩ : Pay)]).map encPay)))])) (0, f.a)) (by kernel_rfl) (T_loop (α := Nat × Int) (fun ((k, r) : Nat × Int) => (mk 99 [(1, (dt (I s))), (10, (.one (.own 44))), (11, (dt (I r))), (12, (dt (I ((k : Nat) : Int))))] [(44, (.row 38 2 (((shares f) ++ [(⟨f.m, (profit f).1⟩ : Pay)]).map encPay)))])) (fun ((k, r) : Nat × Int) => (k ≤ ((shares f) ++ [(⟨f.m, (profit f).1⟩ : Pay)]).length) ∧ (r = f.a - sumA (((shares f) ++ [(⟨f.m, (profit f).1⟩ : Pay)]).take k)) ∧ True) (fun ((k, r) : Nat × Int) => ((shares f) ++ [(⟨f.m, (profit f).1⟩ : Pay)]).length - k) (0, f.a) ⟨Nat.zero_le _, by simp [sumA], trivial⟩ ?_)
        rintro ⟨k, r⟩ ⟨ik, ir, _⟩
        have hsm := small_sum (by decide) (small1 f) k
        have hfb := solid_bounds f (by omega)
        have hll := (small1 f).1
        have hla := (small1 f).2
        refine T_seq ?_
        refine T_reg [{}, {}, { d := some (I ((((shares f) ++ [(⟨f.m, (profit f).1⟩ : Pay)]).length : Nat) : Int)) }] [1, 10, 11, 12, 50] [] (mk 99 [(1, (dt (I s))), (10, (.one (.own 44))), (11, (dt (I r))), (12, (dt (I ((k : Nat) : Int)))), (50, (dt (B (decide (((k : Nat) : Int) < ((((shares f) ++ [(⟨f.m, (profit f).1⟩ : Pay)]).length : Nat) : Int))))))] [(44, (.row 38 2 (((shares f) ++ [(⟨f.m, (profit f).1⟩ : Pay)]).map encPay)))]) (True ∧ True ∧ True ∧ True ∧ True ∧ (True ∧ D.int .i64 ((((shares f) ++ [(⟨f.m, (profit f).1⟩ : Pay)]).map encPay).length : Int) = (I ((((shares f) ++ [(⟨f.m, (profit f).1⟩ : Pay)]).length : Nat) : Int))) ∧ True ∧ True ∧ True) (by kernel_rfl) ⟨trivial, trivial, trivial, trivial, trivial, ⟨trivial, by rw [List.length_map]⟩, trivial, trivial, trivial⟩ ?_
        refine T_cond (decide (((k : Nat) : Int) < ((((shares f) ++ [(⟨f.m, (profit f).1⟩ : Pay)]).length : Nat) : Int))) (by kernel_rfl) (fun h10 => ?_) (fun h10 => ?_)
        · skip
          have g11 : ((k : Nat) : Int) < ((((shares f) ++ [(⟨f.m, (profit f).1⟩ : Pay)]).length : Nat) : Int) := of_decide_eq_true (h10)
          refine T_skip ?_
          refine T_seq ?_
          refine T_block ?_
          have lt12 : k < (((shares f) ++ [(⟨f.m, (profit f).1⟩ : Pay)])).length := by first | omega | (simp only [List.length_set, List.length_map, List.length_append, List.length_cons, List.length_nil] at *; omega)
          obtain ⟨x13, hx14⟩ : ∃ x, (((shares f) ++ [(⟨f.m, (profit f).1⟩ : Pay)]))[k]? = some x := ⟨_, List.getElem?_eq_getElem lt12⟩
          have hb1 := hla _ (List.mem_of_getElem? hx14)
          refine T_regE [{}, {}, {}, {}, {}, { d := some (.agg [(I x13.c), (I x13.a)]) }, { d := some (I (r - x13.a)) }] (mk 99 [(1, (dt (I s))), (10, (.one (.own 44))), (11, (dt (I (r - x13.a)))), (12, (dt (I ((k : Nat) : Int)))), (50, (dt (B (decide (((k : Nat) : Int) < ((((shares f) ++ [(⟨f.m, (profit f).1⟩ : Pay)]).length : Nat) : Int)))))), (53, (dt (I r))), (54, (.one (.own 44))), (55, (dt (I ((k : Nat) : Int)))), (56, (.one (.rref 44 k 0))), (57, (.one (.rref 44 k 1))), (58, (dt (I x13.a))), (59, (dt (I (r - x13.a))))] [(44, (.row 38 2 (((shares f) ++ [(⟨f.m, (profit f).1⟩ : Pay)]).map encPay)))]) (True ∧ True ∧ True ∧ True ∧ True ∧ True ∧ True ∧ (0 ≤ ((k : Nat) : Int) ∧ ((k : Nat) : Int) < (((((shares f) ++ [(⟨f.m, (profit f).1⟩ : Pay)]).map encPay).length : Nat) : Int)) ∧ True ∧ True ∧ True ∧ ((((shares f) ++ [(⟨f.m, (profit f).1⟩ : Pay)]).map encPay)[k]? = some (.agg [(I x13.c), (I x13.a)])) ∧ True ∧ (IntKind.i64.wrap (r - x13.a) = (r - x13.a)) ∧ True ∧ True ∧ True) (by kernel_rfl) ⟨trivial, trivial, trivial, trivial, trivial, trivial, trivial, ⟨by omega, by rw [List.length_map]; first | omega | (simp only [List.length_append, List.length_set, List.length_map, List.length_cons, List.length_nil] at *; omega)⟩, trivial, trivial, trivial, (by rw [List.getElem?_map, hx14]; rfl), trivial, (i64_wrap (by omega) (by omega)), trivial, trivial, trivial⟩ ?_
          refine T_regE [{}, { d := some (I ((k + 1 : Nat) : Int)) }] (mk 99 [(1, (dt (I s))), (10, (.one (.own 44))), (11, (dt (I (r - x13.a)))), (12, (dt (I ((k + 1 : Nat) : Int)))), (50, (dt (B (decide (((k : Nat) : Int) < ((((shares f) ++ [(⟨f.m, (profit f).1⟩ : Pay)]).length : Nat) : Int)))))), (51, (dt (I ((k : Nat) : Int)))), (52, (dt (I ((k + 1 : Nat) : Int)))), (53, (dt (I r))), (54, (.one (.own 44))), (55, (dt (I ((k : Nat) : Int)))), (56, (.one (.rref 44 k 0))), (57, (.one (.rref 44 k 1))), (58, (dt (I x13.a))), (59, (dt (I (r - x13.a))))] [(44, (.row 38 2 (((shares f) ++ [(⟨f.m, (profit f).1⟩ : Pay)]).map encPay)))]) (True ∧ True ∧ True ∧ (IntKind.i64.wrap (((k : Nat) : Int) + 1) = ((k + 1 : Nat) : Int)) ∧ True ∧ True ∧ True) (by kernel_rfl) ⟨trivial, trivial, trivial, (by rw [i64_wrap (by omega) (by omega)]; omega), trivial, trivial, trivial⟩ ?_
          refine Exists.intro (k + 1, (r - x13.a)) ⟨⟨by omega, by rw [ir, sumA_snoc hx14]; omega, trivial⟩, by first | omega | (dsimp only; omega), le_turn [] [1, 10, 11, 12] [] (by kernel_rfl)⟩
        · skip
          have g15 : ¬ (((k : Nat) : Int) < ((((shares f) ++ [(⟨f.m, (profit f).1⟩ : Pay)]).length : Nat) : Int)) := of_decide_eq_false (h10)
          refine T_exit ?_
          refine T_reg [{}, {}, {}, {}, {}, { d := some (.sl 2 ((((shares f) ++ [(⟨f.m, (profit f).1⟩ : Pay)]) ++ [(⟨s, r⟩ : Pay)]).map encPay)) }] [10] [64] (mk 99 [(10, (.one (.own 65)))] [(65, (.row 38 2 ((((shares f) ++ [(⟨f.m, (profit f).1⟩ : Pay)]) ++ [(⟨s, r⟩ : Pay)]).map encPay)))]) (True ∧ True ∧ True ∧ True ∧ True ∧ True ∧ True ∧ True ∧ True ∧ (dfill (fun i => some (i * 2, 2)) (List.replicate (1 * 2) .junk) [(0, [(.dat (I s)), (.dat (I r))])] = some ((flat ([(⟨s, r⟩ : Pay)].map encPay)).map .dat)) ∧ True ∧ (((((shares f) ++ [(⟨f.m, (profit f).1⟩ : Pay)]).map encPay).length + ([(⟨s, r⟩ : Pay)].map encPay).length) * 16 ≤ 140737488355328 ∧ cellsOne ([(⟨s, r⟩ : Pay)].map encPay) ∧ (((shares f) ++ [(⟨f.m, (profit f).1⟩ : Pay)]).map encPay) ++ [(⟨s, r⟩ : Pay)].map encPay = (((shares f) ++ [(⟨f.m, (profit f).1⟩ : Pay)]) ++ [(⟨s, r⟩ : Pay)]).map encPay) ∧ True ∧ True ∧ True) (by kernel_rfl) ⟨trivial, trivial, trivial, trivial, trivial, trivial, trivial, trivial, trivial, rfl, trivial, ⟨by simp only [List.length_map, List.length_nil, List.length_cons]; first | omega | (simp only [List.length_append, List.length_cons, List.length_nil]; omega), encPay_one _, by simp⟩, trivial, trivial, trivial⟩ ?_
          refine T_reg [] [10, 13] [] (mk 99 [(10, (.one (.own 65))), (13, (dt nilS))] [(65, (.row 38 2 ((((shares f) ++ [(⟨f.m, (profit f).1⟩ : Pay)]) ++ [(⟨s, r⟩ : Pay)]).map encPay)))]) (True ∧ True ∧ True) (by kernel_rfl) ⟨trivial, trivial, trivial⟩ ?_
          refine T_seq ?_
          refine T_reg [] [10, 13, 14] [] (mk 99 [(10, (.one (.own 65))), (13, (dt nilS)), (14, (dt (I 0)))] [(65, (.row 38 2 ((((shares f) ++ [(⟨f.m, (profit f).1⟩ : Pay)]) ++ [(⟨s, r⟩ : Pay)]).map encPay)))]) (True ∧ True ∧ True) (by kernel_rfl) ⟨trivial, trivial, trivial⟩ ?_
          refine T_block ?_
          refine T_ownSlot 13 97 38 2 (mk 99 [(10, (.one (.own 65))), (13, (.one (.own 97))), (14, (dt (I 0)))] [(97, (.row 38 2 (([] : List Pay).map encPay))), (65, (.row 38 2 ((((shares f) ++ [(⟨f.m, (profit f).1⟩ : Pay)]) ++ [(⟨s, r⟩ : Pay)]).map encPay)))]) (by kernel_rfl) (by decide) ?_
          refine T_turn [] [10, 13, 14] [] ((fun ((c, o) : Nat × List Pay) => (mk 99 [(10, (.one (.own 65))), (13, (.one (.own 97))), (14, (dt (I ((c : Nat) : Int))))] [(97, (.row 38 2 (o.map encPay))), (65, (.row 38 2 ((((shares f) ++ [(⟨f.m, (profit f).1⟩ : Pay)]) ++ [(⟨s, r⟩ : Pay)]).map encPay)))])) (0, ([] : List Pay))) (by kernel_rfl) (T_loop (α := Nat × List Pay) (fun ((c, o) : Nat × List Pay) => (mk 99 [(10, (.one (.own 65))), (13, (.one (.own 97))), (14, (dt (I ((c : Nat) : Int))))] [(97, (.row 38 2 (o.map encPay))), (65, (.row 38 2 ((((shares f) ++ [(⟨f.m, (profit f).1⟩ : Pay)]) ++ [(⟨s, r⟩ : Pay)]).map encPay)))])) (fun ((c, o) : Nat × List Pay) => (c ≤ 192) ∧ (o.length ≤ c) ∧ (o = (List.range c).filterMap fun c => payOf (((shares f) ++ [(⟨f.m, (profit f).1⟩ : Pay)]) ++ [(⟨s, r⟩ : Pay)]) (c : Nat)) ∧ True) (fun ((c, o) : Nat × List Pay) => 192 - c) (0, ([] : List Pay)) ⟨Nat.zero_le _, Nat.le_refl _, rfl, trivial⟩ ?_)
          rintro ⟨c, o⟩ ⟨ic, iol, io, _⟩
          refine T_seq ?_
          refine T_reg [] [10, 13, 14, 67] [] (mk 99 [(10, (.one (.own 65))), (13, (.one (.own 97))), (14, (dt (I ((c : Nat) : Int)))), (67, (dt (B (decide (((c : Nat) : Int) < 192)))))] [(97, (.row 38 2 (o.map encPay))), (65, (.row 38 2 ((((shares f) ++ [(⟨f.m, (profit f).1⟩ : Pay)]) ++ [(⟨s, r⟩ : Pay)]).map encPay)))]) (True ∧ True ∧ True ∧ True ∧ True) (by kernel_rfl) ⟨trivial, trivial, trivial, trivial, trivial⟩ ?_
          refine T_cond (decide (((c : Nat) : Int) < 192)) (by kernel_rfl) (fun h16 => ?_) (fun h16 => ?_)
          · skip
            have g17 : ((c : Nat) : Int) < 192 := of_decide_eq_true (h16)
            refine T_skip ?_
            refine T_seq ?_
            refine T_block ?_
            refine T_reg [] [10, 13, 14, 15] [] (mk 99 [(10, (.one (.own 65))), (13, (.one (.own 97))), (14, (dt (I ((c : Nat) : Int)))), (15, (dt (I 0)))] [(97, (.row 38 2 (o.map encPay))), (65, (.row 38 2 ((((shares f) ++ [(⟨f.m, (profit f).1⟩ : Pay)]) ++ [(⟨s, r⟩ : Pay)]).map encPay)))]) (True ∧ True ∧ True) (by kernel_rfl) ⟨trivial, trivial, trivial⟩ ?_
            refine T_seq ?_
            refine T_reg [] [10, 13, 14, 15, 16] [] (mk 99 [(10, (.one (.own 65))), (13, (.one (.own 97))), (14, (dt (I ((c : Nat) : Int)))), (15, (dt (I 0))), (16, (dt (I 0)))] [(97, (.row 38 2 (o.map encPay))), (65, (.row 38 2 ((((shares f) ++ [(⟨f.m, (profit f).1⟩ : Pay)]) ++ [(⟨s, r⟩ : Pay)]).map encPay)))]) (True ∧ True ∧ True) (by kernel_rfl) ⟨trivial, trivial, trivial⟩ ?_
            refine T_block ?_
            refine T_turn [] [10, 13, 14, 15, 16] [] ((fun ((j, n) : Nat × Int) => (mk 99 [(10, (.one (.own 65))), (13, (.one (.own 97))), (14, (dt (I ((c : Nat) : Int)))), (15, (dt (I n))), (16, (dt (I ((j : Nat) : Int))))] [(97, (.row 38 2 (o.map encPay))), (65, (.row 38 2 ((((shares f) ++ [(⟨f.m, (profit f).1⟩ : Pay)]) ++ [(⟨s, r⟩ : Pay)]).map encPay)))])) (0, 0)) (by kernel_rfl) (T_loop (α := Nat × Int) (fun ((j, n) : Nat × Int) => (mk 99 [(10, (.one (.own 65))), (13, (.one (.own 97))), (14, (dt (I ((c : Nat) : Int)))), (15, (dt (I n))), (16, (dt (I ((j : Nat) : Int))))] [(97, (.row 38 2 (o.map encPay))), (65, (.row 38 2 ((((shares f) ++ [(⟨f.m, (profit f).1⟩ : Pay)]) ++ [(⟨s, r⟩ : Pay)]).map encPay)))])) (fun ((j, n) : Nat × Int) => (j ≤ (((shares f) ++ [(⟨f.m, (profit f).1⟩ : Pay)]) ++ [(⟨s, r⟩ : Pay)]).length) ∧ (n = tot (c : Nat) ((((shares f) ++ [(⟨f.m, (profit f).1⟩ : Pay)]) ++ [(⟨s, r⟩ : Pay)]).take j)) ∧ True) (fun ((j, n) : Nat × Int) => (((shares f) ++ [(⟨f.m, (profit f).1⟩ : Pay)]) ++ [(⟨s, r⟩ : Pay)]).length - j) (0, 0) ⟨Nat.zero_le _, by simp [tot], trivial⟩ ?_)
            rintro ⟨j, n⟩ ⟨ij, inn, _⟩
            have hs2 := small2 (f := f) (s := s) (r := r) (by omega) (by omega)
            have ht2 := small_tot (by decide) hs2 (c : Nat) j
            have hll2 := hs2.1
            have hlb := hs2.2
            refine T_seq ?_
            refine T_reg [{}, {}, { d := some (I (((((shares f) ++ [(⟨f.m, (profit f).1⟩ : Pay)]) ++ [(⟨s, r⟩ : Pay)]).length : Nat) : Int)) }] [10, 13, 14, 15, 16, 73] [] (mk 99 [(10, (.one (.own 65))), (13, (.one (.own 97))), (14, (dt (I ((c : Nat) : Int)))), (15, (dt (I n))), (16, (dt (I ((j : Nat) : Int)))), (73, (dt (B (decide (((j : Nat) : Int) < (((((shares f) ++ [(⟨f.m, (profit f).1⟩ : Pay)]) ++ [(⟨s, r⟩ : Pay)]).length : Nat) : Int))))))] [(97, (.row 38 2 (o.map encPay))), (65, (.row 38 2 ((((shares f) ++ [(⟨f.m, (profit f).1⟩ : Pay)]) ++ [(⟨s, r⟩ : Pay)]).map encPay)))]) (True ∧ True ∧ True ∧ True ∧ True ∧ (True ∧ D.int .i64 (((((shares f) ++ [(⟨f.m, (profit f).1⟩ : Pay)]) ++ [(⟨s, r⟩ : Pay)]).map encPay).length : Int) = (I (((((shares f) ++ [(⟨f.m, (profit f).1⟩ : Pay)]) ++ [(⟨s, r⟩ : Pay)]).length : Nat) : Int))) ∧ True ∧ True ∧ True) (by kernel_rfl) ⟨trivial, trivial, trivial, trivial, trivial, ⟨trivial, by rw [List.length_map]⟩, trivial, trivial, trivial⟩ ?_
            refine T_cond (decide (((j : Nat) : Int) < (((((shares f) ++ [(⟨f.m, (profit f).1⟩ : Pay)]) ++ [(⟨s, r⟩ : Pay)]).length : Nat) : Int))) (by kernel_rfl) (fun h18 => ?_) (fun h18 => ?_)
            · skip
              have g19 : ((j : Nat) : Int) < (((((shares f) ++ [(⟨f.m, (profit f).1⟩ : Pay)]) ++ [(⟨s, r⟩ : Pay)]).length : Nat) : Int) := of_decide_eq_true (h18)
              refine T_skip ?_
              refine T_seq ?_
              refine T_block ?_
              have lt20 : j < ((((shares f) ++ [(⟨f.m, (profit f).1⟩ : Pay)]) ++ [(⟨s, r⟩ : Pay)])).length := by first | omega | (simp only [List.length_set, List.length_map, List.length_append, List.length_cons, List.length_nil] at *; omega)
              obtain ⟨x21, hx22⟩ : ∃ x, ((((shares f) ++ [(⟨f.m, (profit f).1⟩ : Pay)]) ++ [(⟨s, r⟩ : Pay)]))[j]? = some x := ⟨_, List.getElem?_eq_getElem lt20⟩
              have hb1 := hlb _ (List.mem_of_getElem? hx22)
              refine T_reg [{}, {}, {}, {}, { d := some (.agg [(I x21.c), (I x21.a)]) }] [10, 13, 14, 15, 16, 82] [] (mk 99 [(10, (.one (.own 65))), (13, (.one (.own 97))), (14, (dt (I ((c : Nat) : Int)))), (15, (dt (I n))), (16, (dt (I ((j : Nat) : Int)))), (82, (dt (B (x21.c == ((c : Nat) : Int)))))] [(97, (.row 38 2 (o.map encPay))), (65, (.row 38 2 ((((shares f) ++ [(⟨f.m, (profit f).1⟩ : Pay)]) ++ [(⟨s, r⟩ : Pay)]).map encPay)))]) (True ∧ True ∧ True ∧ True ∧ True ∧ (0 ≤ ((j : Nat) : Int) ∧ ((j : Nat) : Int) < ((((((shares f) ++ [(⟨f.m, (profit f).1⟩ : Pay)]) ++ [(⟨s, r⟩ : Pay)]).map encPay).length : Nat) : Int)) ∧ True ∧ True ∧ True ∧ (((((shares f) ++ [(⟨f.m, (profit f).1⟩ : Pay)]) ++ [(⟨s, r⟩ : Pay)]).map encPay)[j]? = some (.agg [(I x21.c), (I x21.a)])) ∧ True ∧ True ∧ True ∧ True ∧ True) (by kernel_rfl) ⟨trivial, trivial, trivial, trivial, trivial, ⟨by omega, by rw [List.length_map]; first | omega | (simp only [List.length_append, List.length_set, List.length_map, List.length_cons, List.length_nil] at *; omega)⟩, trivial, trivial, trivial, (by rw [List.getElem?_map, hx22]; rfl), trivial, trivial, trivial, trivial, trivial⟩ ?_
              refine T_cond (x21.c == ((c : Nat) : Int)) (by kernel_rfl) (fun h23 => ?_) (fun h23 => ?_)
              · skip
                have g24 : x21.c = ((c : Nat) : Int) := eq_of_beq (h23)
                refine T_regE [{}, {}, {}, {}, {}, { d := some (.agg [(I x21.c), (I x21.a)]) }, { d := some (I (n + x21.a)) }] (mk 99 [(10, (.one (.own 65))), (13, (.one (.own 97))), (14, (dt (I ((c : Nat) : Int)))), (15, (dt (I (n + x21.a)))), (16, (dt (I ((j : Nat) : Int)))), (82, (dt (B (x21.c == ((c : Nat) : Int))))), (83, (dt (I n))), (84, (.one (.own 65))), (85, (dt (I ((j : Nat) : Int)))), (86, (.one (.rref 65 j 0))), (87, (.one (.rref 65 j 1))), (88, (dt (I x21.a))), (89, (dt (I (n + x21.a))))] [(97, (.row 38 2 (o.map encPay))), (65, (.row 38 2 ((((shares f) ++ [(⟨f.m, (profit f).1⟩ : Pay)]) ++ [(⟨s, r⟩ : Pay)]).map encPay)))]) (True ∧ True ∧ True ∧ True ∧ True ∧ True ∧ True ∧ (0 ≤ ((j : Nat) : Int) ∧ ((j : Nat) : Int) < ((((((shares f) ++ [(⟨f.m, (profit f).1⟩ : Pay)]) ++ [(⟨s, r⟩ : Pay)]).map encPay).length : Nat) : Int)) ∧ True ∧ True ∧ True ∧ (((((shares f) ++ [(⟨f.m, (profit f).1⟩ : Pay)]) ++ [(⟨s, r⟩ : Pay)]).map encPay)[j]? = some (.agg [(I x21.c), (I x21.a)])) ∧ True ∧ (IntKind.i64.wrap (n + x21.a) = (n + x21.a)) ∧ True ∧ True ∧ True) (by kernel_rfl) ⟨trivial, trivial, trivial, trivial, trivial, trivial, trivial, ⟨by omega, by rw [List.length_map]; first | omega | (simp only [List.length_append, List.length_set, List.length_map, List.length_cons, List.length_nil] at *; omega)⟩, trivial, trivial, trivial, (by rw [List.getElem?_map, hx22]; rfl), trivial, (i64_wrap (by omega) (by omega)), trivial, trivial, trivial⟩ ?_
                refine T_regE [{}, { d := some (I ((j + 1 : Nat) : Int)) }] (mk 99 [(10, (.one (.own 65))), (13, (.one (.own 97))), (14, (dt (I ((c : Nat) : Int)))), (15, (dt (I (n + x21.a)))), (16, (dt (I ((j + 1 : Nat) : Int)))), (74, (dt (I ((j : Nat) : Int)))), (75, (dt (I ((j + 1 : Nat) : Int)))), (82, (dt (B (x21.c == ((c : Nat) : Int))))), (83, (dt (I n))), (84, (.one (.own 65))), (85, (dt (I ((j : Nat) : Int)))), (86, (.one (.rref 65 j 0))), (87, (.one (.rref 65 j 1))), (88, (dt (I x21.a))), (89, (dt (I (n + x21.a))))] [(97, (.row 38 2 (o.map encPay))), (65, (.row 38 2 ((((shares f) ++ [(⟨f.m, (profit f).1⟩ : Pay)]) ++ [(⟨s, r⟩ : Pay)]).map encPay)))]) (True ∧ True ∧ True ∧ (IntKind.i64.wrap (((j : Nat) : Int) + 1) = ((j + 1 : Nat) : Int)) ∧ True ∧ True ∧ True) (by kernel_rfl) ⟨trivial, trivial, trivial, (by rw [i64_wrap (by omega) (by omega)]; omega), trivial, trivial, trivial⟩ ?_
                refine Exists.intro (j + 1, (n + x21.a)) ⟨⟨by omega, by rw [tot_snoc _ hx22, if_pos (by assumption), inn], trivial⟩, by first | omega | (dsimp only; omega), le_turn [] [10, 13, 14, 15, 16] [] (by kernel_rfl)⟩
              · skip
                have g25 : x21.c ≠ ((c : Nat) : Int) := ne_of_beq_false (h23)
                refine T_skip ?_
                refine T_regE [{}, { d := some (I ((j + 1 : Nat) : Int)) }] (mk 99 [(10, (.one (.own 65))), (13, (.one (.own 97))), (14, (dt (I ((c : Nat) : Int)))), (15, (dt (I n))), (16, (dt (I ((j + 1 : Nat) : Int)))), (74, (dt (I ((j : Nat) : Int)))), (75, (dt (I ((j + 1 : Nat) : Int)))), (82, (dt (B (x21.c == ((c : Nat) : Int)))))] [(97, (.row 38 2 (o.map encPay))), (65, (.row 38 2 ((((shares f) ++ [(⟨f.m, (profit f).1⟩ : Pay)]) ++ [(⟨s, r⟩ : Pay)]).map encPay)))]) (True ∧ True ∧ True ∧ (IntKind.i64.wrap (((j : Nat) : Int) + 1) = ((j + 1 : Nat) : Int)) ∧ True ∧ True ∧ True) (by kernel_rfl) ⟨trivial, trivial, trivial, (by rw [i64_wrap (by omega) (by omega)]; omega), trivial, trivial, trivial⟩ ?_
                refine Exists.intro (j + 1, n) ⟨⟨by omega, by rw [tot_snoc _ hx22, if_neg (by assumption), inn]; simp, trivial⟩, by first | omega | (dsimp only; omega), le_turn [] [10, 13, 14, 15, 16] [] (by kernel_rfl)⟩
            · skip
              have g26 : ¬ (((j : Nat) : Int) < (((((shares f) ++ [(⟨f.m, (profit f).1⟩ : Pay)]) ++ [(⟨s, r⟩ : Pay)]).length : Nat) : Int)) := of_decide_eq_false (h18)
              refine T_exit ?_
              refine T_reg [] [10, 13, 14, 15, 91] [] (mk 99 [(10, (.one (.own 65))), (13, (.one (.own 97))), (14, (dt (I ((c : Nat) : Int)))), (15, (dt (I n))), (91, (dt (B (decide (n > 0)))))] [(97, (.row 38 2 (o.map encPay))), (65, (.row 38 2 ((((shares f) ++ [(⟨f.m, (profit f).1⟩ : Pay)]) ++ [(⟨s, r⟩ : Pay)]).map encPay)))]) (True ∧ True ∧ True ∧ True ∧ True) (by kernel_rfl) ⟨trivial, trivial, trivial, trivial, trivial⟩ ?_
              refine T_cond (decide (n > 0)) (by kernel_rfl) (fun h27 => ?_) (fun h27 => ?_)
              · skip
                have g28 : n > 0 := of_decide_eq_true (h27)
                refine T_regE [{}, {}, {}, {}, {}, { d := some (.sl 2 ((o ++ [(⟨((c : Nat) : Int), n⟩ : Pay)]).map encPay)) }] (mk 99 [(10, (.one (.own 65))), (13, (.one (.own 97))), (14, (dt (I ((c : Nat) : Int)))), (15, (dt (I n))), (91, (dt (B (decide (n > 0))))), (93, (dt (I ((c : Nat) : Int)))), (94, (dt (I n))), (95, (.agg [(.dat (I ((c : Nat) : Int))), (.dat (I n))])), (96, (.one (.own 96))), (97, (.one (.own 97)))] [(97, (.row 38 2 ((o ++ [(⟨((c : Nat) : Int), n⟩ : Pay)]).map encPay))), (96, (.row 38 2 ([(⟨((c : Nat) : Int), n⟩ : Pay)].map encPay))), (65, (.row 38 2 ((((shares f) ++ [(⟨f.m, (profit f).1⟩ : Pay)]) ++ [(⟨s, r⟩ : Pay)]).map encPay)))]) (True ∧ True ∧ True ∧ True ∧ True ∧ True ∧ True ∧ True ∧ True ∧ (dfill (fun i => some (i * 2, 2)) (List.replicate (1 * 2) .junk) [(0, [(.dat (I ((c : Nat) : Int))), (.dat (I n))])] = some ((flat ([(⟨((c : Nat) : Int), n⟩ : Pay)].map encPay)).map .dat)) ∧ True ∧ (((o.map encPay).length + ([(⟨((c : Nat) : Int), n⟩ : Pay)].map encPay).length) * 16 ≤ 140737488355328 ∧ cellsOne ([(⟨((c : Nat) : Int), n⟩ : Pay)].map encPay) ∧ (o.map encPay) ++ [(⟨((c : Nat) : Int), n⟩ : Pay)].map encPay = (o ++ [(⟨((c : Nat) : Int), n⟩ : Pay)]).map encPay) ∧ True ∧ True ∧ True) (by kernel_rfl) ⟨trivial, trivial, trivial, trivial, trivial, trivial, trivial, trivial, trivial, rfl, trivial, ⟨by simp only [List.length_map, List.length_nil, List.length_cons]; first | omega | (simp only [List.length_append, List.length_cons, List.length_nil]; omega), encPay_one _, by simp⟩, trivial, trivial, trivial⟩ ?_
                refine T_regE [{}, { d := some (I ((c + 1 : Nat) : Int)) }] (mk 99 [(10, (.one (.own 65))), (13, (.one (.own 97))), (14, (dt (I ((c + 1 : Nat) : Int)))), (15, (dt (I n))), (68, (dt (I ((c : Nat) : Int)))), (69, (dt (I ((c + 1 : Nat) : Int)))), (91, (dt (B (decide (n > 0))))), (93, (dt (I ((c : Nat) : Int)))), (94, (dt (I n))), (95, (.agg [(.dat (I ((c : Nat) : Int))), (.dat (I n))])), (96, (.one (.own 96))), (97, (.one (.own 97)))] [(97, (.row 38 2 ((o ++ [(⟨((c : Nat) : Int), n⟩ : Pay)]).map encPay))), (96, (.row 38 2 ([(⟨((c : Nat) : Int), n⟩ : Pay)].map encPay))), (65, (.row 38 2 ((((shares f) ++ [(⟨f.m, (profit f).1⟩ : Pay)]) ++ [(⟨s, r⟩ : Pay)]).map encPay)))]) (True ∧ True ∧ True ∧ (IntKind.i64.wrap (((c : Nat) : Int) + 1) = ((c + 1 : Nat) : Int)) ∧ True ∧ True ∧ True) (by kernel_rfl) ⟨trivial, trivial, trivial, (by rw [i64_wrap (by omega) (by omega)]; omega), trivial, trivial, trivial⟩ ?_
                refine Exists.intro (c + 1, (o ++ [(⟨((c : Nat) : Int), n⟩ : Pay)])) ⟨⟨by omega, by first | omega | (simp only [List.length_append, List.length_cons, List.length_nil]; omega), by exact pay_yes io inn (by omega) (by assumption), trivial⟩, by first | omega | (dsimp only; omega), le_turn [] [10, 13, 14] [96] (by kernel_rfl)⟩
              · skip
                have g29 : ¬ (n > 0) := of_decide_eq_false (h27)
                refine T_skip ?_
                refine T_regE [{}, { d := some (I ((c + 1 : Nat) : Int)) }] (mk 99 [(10, (.one (.own 65))), (13, (.one (.own 97))), (14, (dt (I ((c + 1 : Nat) : Int)))), (15, (dt (I n))), (68, (dt (I ((c : Nat) : Int)))), (69, (dt (I ((c + 1 : Nat) : Int)))), (91, (dt (B (decide (n > 0)))))] [(97, (.row 38 2 (o.map encPay))), (65, (.row 38 2 ((((shares f) ++ [(⟨f.m, (profit f).1⟩ : Pay)]) ++ [(⟨s, r⟩ : Pay)]).map encPay)))]) (True ∧ True ∧ True ∧ (IntKind.i64.wrap (((c : Nat) : Int) + 1) = ((c + 1 : Nat) : Int)) ∧ True ∧ True ∧ True) (by kernel_rfl) ⟨trivial, trivial, trivial, (by rw [i64_wrap (by omega) (by omega)]; omega), trivial, trivial, trivial⟩ ?_
                refine Exists.intro (c + 1, o) ⟨⟨by omega, by first | omega | (simp only [List.length_append, List.length_cons, List.length_nil]; omega), by exact pay_no io inn (by omega) (by assumption), trivial⟩, by first | omega | (dsimp only; omega), le_turn [] [10, 13, 14] [] (by kernel_rfl)⟩
          · skip
            have g30 : ¬ (((c : Nat) : Int) < 192) := of_decide_eq_false (h16)
            refine T_exit ?_
            refine T_reg [] [4, 5] [65] (mk 99 [(4, (.one (.own 97))), (5, (dt (I 0)))] [(97, (.row 38 2 (o.map encPay)))]) (True ∧ True ∧ True ∧ True ∧ True ∧ True ∧ True) (by kernel_rfl) ⟨trivial, trivial, trivial, trivial, trivial, trivial, trivial⟩ ?_
            refine T_ret ?_
            exact ret_here [(.one (.own 97)), (dt (I 0))] (by kernel_rfl) ⟨(by show D.sl 2 ((pays f s).map encPay) = D.sl 2 (o.map encPay); exact congrArg (fun l => D.sl 2 (l.map encPay)) (by first | (rw [pays, if_pos (by omega)]; done) | (rw [pays, if_neg (by omega), if_pos (by omega)]; done) | (rw [paysE, if_pos (by omega)]; omega; done) | (rw [paysE, if_neg (by omega), if_pos (by omega)]; done) | (rw [paysE, if_neg (by omega), if_neg (by omega)]; done) | (exact pays_is (by omega) (by omega) ir (by omega) io (by omega); done) : (pays f s) = o)), (.inl (congrArg I (by first | (rw [pays, if_pos (by omega)]; done) | (rw [pays, if_neg (by omega), if_pos (by omega)]; done) | (rw [paysE, if_pos (by omega)]; omega; done) | (rw [paysE, if_neg (by omega), if_pos (by omega)]; done) | (rw [paysE, if_neg (by omega), if_neg (by omega)]; done) | (exact pays_is (by omega) (by omega) ir (by omega) io (by omega); done) : 0 = (paysE f s)))), trivial⟩

end Go.Proofs.Ythpjlkpkhlkhbaa

/-
  The map of sums that Payments keeps: sorted, and what each club gets. Conditions: those of each theorem.
-/
set_option linter.unusedVariables false
set_option linter.unusedSimpArgs false
namespace Go.Proofs.Ythpjlkpkhlkhbaa
open Go.DL
theorem minsert_mem {x y : Int × Int} : ∀ {l : List (Int × Int)}, y ∈ minsert x l ↔ y = x ∨ y ∈ l
  | [] => by simp [minsert]
  | z :: l => by
    unfold minsert
    split
    · simp
    · simp only [List.mem_cons, minsert_mem (l := l)]
      constructor
      · rintro (h | h | h) <;> simp [h]
      · rintro (h | h | h) <;> simp [h]
theorem minsert_sorted {x : Int × Int} : ∀ {l : List (Int × Int)}, (l.map (·.1)).Pairwise (· < ·) → (∀ y ∈ l, y.1 ≠ x.1) → ((minsert x l).map (·.1)).Pairwise (· < ·)
  | [], _, _ => by simp [minsert]
  | z :: l, h, hn => by
    rw [List.map_cons, List.pairwise_cons] at h
    unfold minsert
    split
    · rename_i hlt
      rw [List.map_cons, List.map_cons, List.pairwise_cons, List.pairwise_cons]
      refine ⟨fun a ha => ?_, h⟩
      rcases List.mem_cons.1 ha with rfl | ha
      · exact hlt
      · have := h.1 a ha; omega
    · rename_i hlt
      rw [List.map_cons, List.pairwise_cons]
      refine ⟨fun a ha => ?_, minsert_sorted h.2 fun y hy => hn y (by simp [hy])⟩
      obtain ⟨y, hy, rfl⟩ := List.mem_map.1 ha
      have hz := hn z (by simp)
      rcases minsert_mem.1 hy with rfl | hy
      · omega
      · exact h.1 _ (List.mem_map.2 ⟨y, hy, rfl⟩)
theorem minsert_get {x : Int × Int} (c : Int) : ∀ {l : List (Int × Int)}, (∀ y ∈ l, y.1 ≠ x.1) → mget (minsert x l) c = if x.1 = c then x.2 else mget l c
  | [], _ => by simp [minsert, mget]
  | z :: l, hn => by
    have hz := hn z (by simp)
    unfold minsert
    split
    · simp [mget]
    · rw [mget, minsert_get c fun y hy => hn y (by simp [hy]), mget]
      by_cases h1 : z.1 = c
      · rw [if_pos h1, if_pos h1, if_neg (by omega)]
      · rw [if_neg h1, if_neg h1]
theorem filter_get {l : List (Int × Int)} {a c : Int} (h : a ≠ c) : mget (l.filter fun p => !(p.1 == a)) c = mget l c := by
  induction l with
  | nil => rfl
  | cons z l ih =>
    rw [List.filter_cons]
    by_cases h1 : z.1 = a
    · have : z.1 ≠ c := by omega
      simp only [h1, beq_self_eq_true, Bool.not_true, Bool.false_eq_true, if_false]
      rw [ih, mget, if_neg this]
    · have : (z.1 == a) = false := by simpa using h1
      simp only [this, Bool.not_false, if_true]
      rw [mget, mget, ih]
theorem filter_ne {l : List (Int × Int)} {a : Int} : ∀ y ∈ l.filter (fun p => !(p.1 == a)), y.1 ≠ a := by
  intro y hy
  have := (List.mem_filter.1 hy).2
  simpa using this
theorem mput_get (l : List (Int × Int)) (a v c : Int) : mget (mput l a v) c = if a = c then v else mget l c := by
  rw [mput, minsert_get c (by exact filter_ne)]
  by_cases h : a = c
  · rw [if_pos h, if_pos h]
  · rw [if_neg h, if_neg h, filter_get h]
theorem mput_sorted {l : List (Int × Int)} (a v : Int) (h : (l.map (·.1)).Pairwise (· < ·)) : ((mput l a v).map (·.1)).Pairwise (· < ·) :=
  minsert_sorted (h.sublist (List.filter_sublist.map _)) (by exact filter_ne)
theorem mput_mem {l : List (Int × Int)} {a v : Int} {y : Int × Int} (h : y ∈ mput l a v) : y.1 = a ∨ y ∈ l := by
  rcases minsert_mem.1 h with rfl | h
  · exact .inl rfl
  · exact .inr (List.mem_filter.1 h).1
theorem minsert_len (x : Int × Int) : ∀ l : List (Int × Int), (minsert x l).length = l.length + 1
  | [] => rfl
  | z :: l => by
    unfold minsert
    split
    · rfl
    · rw [List.length_cons, minsert_len x l, List.length_cons]
theorem mput_len (l : List (Int × Int)) (a v : Int) : (mput l a v).length ≤ l.length + 1 := by
  rw [mput, minsert_len]
  have := List.length_filter_le (fun p : Int × Int => !(p.1 == a)) l
  omega
/-- A sorted map that holds what each club gets of a list. -/
structure MP (m : List (Int × Int)) (L : List Pay) : Prop where
  sorted : (m.map (·.1)).Pairwise (· < ·)
  get : ∀ c, mget m c = tot c L
  mem : ∀ x ∈ m, ∃ p ∈ L, p.c = x.1
  len : m.length ≤ L.length
theorem MP_nil : MP [] [] := ⟨by simp, fun c => rfl, by simp, Nat.le_refl _⟩
theorem MP_put {m : List (Int × Int)} {L : List Pay} {p : Pay} (h : MP m L) : MP (mput m p.c (mget m p.c + p.a)) (L ++ [p]) := by
  refine ⟨mput_sorted _ _ h.sorted, fun c => ?_, fun x hx => ?_, ?_⟩
  · rw [mput_get, tot_append]
    simp only [tot]
    by_cases e : p.c = c
    · rw [if_pos e, if_pos e, e, h.get]; omega
    · rw [if_neg e, if_neg e, h.get]; omega
  · rcases mput_mem hx with e | hx
    · exact ⟨p, by simp, e.symm⟩
    · obtain ⟨q, hq, e⟩ := h.mem x hx; exact ⟨q, by simp [hq], e⟩
  · have := mput_len m p.c (mget m p.c + p.a)
    have := h.len
    simp; omega
theorem MP_step {m : List (Int × Int)} {L0 L : List Pay} {k : Nat} {p : Pay} (h : MP m (L0 ++ L.take k)) (hx : L[k]? = some p) : MP (mput m p.c (mget m p.c + p.a)) (L0 ++ L.take (k + 1)) := by
  rw [take_snoc hx, ← List.append_assoc]; exact MP_put h
theorem MP_all {m : List (Int × Int)} {L0 L : List Pay} {k : Nat} (h : MP m (L0 ++ L.take k)) (hk : L.length ≤ k) : MP m (L0 ++ L) := by rwa [List.take_of_length_le hk] at h
theorem MP_bounds {m : List (Int × Int)} {L : List Pay} {n : Nat} {B : Int} (h : MP m L) (hB : 0 ≤ B) (hs : SmallL L n B) (c : Int) : -(n * B) ≤ mget m c ∧ mget m c ≤ n * B := by
  rw [h.get]
  have := small_tot hB hs c L.length
  rwa [List.take_of_length_le (Nat.le_refl _)] at this
theorem mget_at {m : List (Int × Int)} (h : (m.map (·.1)).Pairwise (· < ·)) {x : Int × Int} (hx : x ∈ m) : mget m x.1 = x.2 := by
  induction m with
  | nil => cases hx
  | cons z l ih =>
    rw [List.map_cons, List.pairwise_cons] at h
    rcases List.mem_cons.1 hx with rfl | hx
    · simp [mget]
    · have := h.1 _ (List.mem_map.2 ⟨x, hx, rfl⟩)
      rw [mget, if_neg (by omega), ih h.2 hx]
theorem mget_not {m : List (Int × Int)} {c : Int} (h : c ∉ m.map (·.1)) : mget m c = 0 := by
  induction m with
  | nil => rfl
  | cons z l ih =>
    rw [List.map_cons, List.mem_cons, not_or] at h
    rw [mget, if_neg (fun e => h.1 e.symm), ih h.2]
/-- Both ways of reckoning who gets how much: over the sorted clubs that occur, and over all clubs. -/
theorem keys_pay {m : List (Int × Int)} {L : List Pay} (h : MP m L) (hneg : ∀ p ∈ L, p.c < 192 ∧ (p.c < 0 → p.a = 0)) : (m.map (·.1)).filterMap (payOf L) = payList L := by
  have hmem : ∀ q : Pay, q ∈ (m.map (·.1)).filterMap (payOf L) ↔ q ∈ payList L := by
    intro q
    simp only [payList, List.mem_filterMap, List.mem_range]
    have tneg : ∀ c, c < 0 → tot c L = 0 := fun c hc => by
      clear h
      induction L with
      | nil => rfl
      | cons p l ih =>
        rw [tot, ih fun q hq => hneg q (by simp [hq])]
        have := (hneg p (by simp)).2
        split <;> omega
    constructor
    · rintro ⟨c, hc, he⟩
      obtain ⟨x, hx, rfl⟩ := List.mem_map.1 hc
      obtain ⟨p, hp, e⟩ := h.mem x hx
      have h1 := hneg p hp
      have h2 : 0 ≤ x.1 := by
        refine Int.not_lt.1 fun hn => ?_
        rw [payOf, tneg _ hn] at he
        simp at he
      refine ⟨x.1.toNat, by omega, ?_⟩
      rwa [Int.toNat_of_nonneg h2]
    · rintro ⟨c, hc, he⟩
      refine ⟨(c : Nat), ?_, he⟩
      refine Decidable.byContradiction fun hn => ?_
      rw [payOf, ← h.get, mget_not hn] at he
      simp at he
  have hc : ∀ {c : Int} {q : Pay}, payOf L c = some q → q.c = c := fun {c q} he => by
    unfold payOf at he
    split at he
    · cases he; rfl
    · cases he
  have s1 : ((m.map (·.1)).filterMap (payOf L)).Pairwise fun a b => a.c < b.c :=
    List.Pairwise.filterMap _ (fun a a' hlt b hb b' hb' => by rw [hc hb, hc hb']; exact hlt) h.sorted
  have s2 : (payList L).Pairwise fun a b => a.c < b.c :=
    List.Pairwise.filterMap _ (fun a a' (hlt : a < a') b hb b' hb' => by rw [hc hb, hc hb']; omega) List.pairwise_lt_range
  have n1 : ((m.map (·.1)).filterMap (payOf L)).Nodup := s1.imp fun h e => by subst e; omega
  have n2 : (payList L).Nodup := s2.imp fun h e => by subst e; omega
  exact ((List.perm_ext_iff_of_nodup n1 n2).2 hmem).eq_of_pairwise (fun a b _ _ h1 h2 => by omega) s1 s2
theorem fm_take {ks : List Int} {k : Nat} {x : Int} (g : Int → Option Pay) (h : ks[k]? = some x) : (ks.take (k + 1)).filterMap g = (ks.take k).filterMap g ++ (match g x with | some y => [y] | none => []) := by
  rw [take_snoc h, List.filterMap_append]
  cases e : g x <;> simp [e]
theorem key_yes {m : List (Int × Int)} {L o : List Pay} {k : Nat} {x : Int} (h : MP m L) (io : o = ((m.map (·.1)).take k).filterMap (payOf L)) (hx : (m.map (·.1))[k]? = some x) (hp : mget m x > 0) : o ++ [(⟨x, mget m x⟩ : Pay)] = ((m.map (·.1)).take (k + 1)).filterMap (payOf L) := by
  rw [fm_take _ hx, io, payOf, ← h.get, if_pos hp]
theorem key_no {m : List (Int × Int)} {L o : List Pay} {k : Nat} {x : Int} (h : MP m L) (io : o = ((m.map (·.1)).take k).filterMap (payOf L)) (hx : (m.map (·.1))[k]? = some x) (hp : ¬ mget m x > 0) : o = ((m.map (·.1)).take (k + 1)).filterMap (payOf L) := by
  rw [fm_take _ hx, io, payOf, ← h.get, if_neg hp, List.append_nil]
theorem keys_end {m : List (Int × Int)} {f : Fee} {s : Int} {o : List Pay} {k : Nat} (hc : chk f = 0) (hs : ¬ (s < 0 ∨ s ≥ 192)) (h : MP m (allP f s)) (io : o = ((m.map (·.1)).take k).filterMap (payOf (allP f s))) (hk : (m.map (·.1)).length ≤ k) : pays f s = o := by
  rw [pays, if_neg (by omega), if_neg hs, io, List.take_of_length_le hk, keys_pay h]
  intro p hp
  simp only [allP, List.mem_append, List.mem_singleton] at hp
  rcases hp with (hp | rfl) | rfl
  · have := shares_mem hp; omega
  · dsimp only
    have h1 := @profit_none f
    rcases chk_cases f with h2 | ⟨_, hh, _⟩
    · omega
    · unfold headOK at hh
      exact ⟨by omega, h1⟩
  · dsimp only; omega
theorem small3 {f : Fee} {s : Int} (hc : chk f = 0) : SmallL (allP f s) 42 56294995342131250 := by
  have h1 := small_sum (B := 1125899906842625) (by decide) (small1 f) 100
  have hb := solid_bounds f hc
  rw [List.take_of_length_le (by have := (small1 f).1; omega), sumA_append] at h1
  simp only [sumA] at h1
  exact small2 (by omega) (by omega)
theorem small_pre {L L' : List Pay} {n : Nat} {B : Int} (h : SmallL (L ++ L') n B) : SmallL L n B :=
  ⟨by have := h.1; simp at this; omega, fun p hp => h.2 p (by simp [hp])⟩
theorem small_take {L L' : List Pay} {n : Nat} {B : Int} (h : SmallL (L ++ L') n B) (k : Nat) : SmallL (L ++ L'.take k) n B :=
  ⟨by have := h.1; simp only [List.length_append, List.length_take] at this ⊢; omega, fun p hp => h.2 p (by rcases List.mem_append.1 hp with h | h; simp [h]; simp [List.mem_of_mem_take h])⟩
theorem rest_two {f : Fee} {r1 r2 : Int} {k1 k2 : Nat} (h1 : r1 = f.a - sumA ((shares f).take k1)) (hk1 : (shares f).length ≤ k1) (h2 : r2 = r1 - sumA ([(⟨f.m, (profit f).1⟩ : Pay)].take k2)) (hk2 : [(⟨f.m, (profit f).1⟩ : Pay)].length ≤ k2) : r2 = f.a - sumA (shares f) - (profit f).1 := by
  rw [List.take_of_length_le hk1] at h1
  rw [List.take_of_length_le hk2] at h2
  simp [sumA] at h2
  omega
def LL (f : Fee) : List Pay := (([] : List Pay) ++ shares f) ++ [(⟨f.m, (profit f).1⟩ : Pay)]
theorem small_LL (f : Fee) : SmallL (LL f) 42 56294995342131250 := by
  have h := small1 f
  refine ⟨by have := h.1; simp [LL] at this ⊢; omega, fun p hp => ?_⟩
  have := h.2 p (by simpa [LL] using hp)
  omega
theorem small_one {L L' : List Pay} {n : Nat} {B : Int} (h : SmallL (L ++ L') n B) : SmallL L' n B :=
  ⟨by have := h.1; simp at this; omega, fun p hp => h.2 p (by simp [hp])⟩
theorem small_all {f : Fee} {s r2 : Int} (hc : chk f = 0) (hr : r2 = f.a - sumA (shares f) - (profit f).1) : SmallL (LL f ++ [(⟨s, r2⟩ : Pay)]) 42 56294995342131250 := by
  have h := small3 (s := s) hc
  rw [hr]; simpa [LL, allP] using h
theorem all_is {f : Fee} {s r2 : Int} {m : List (Int × Int)} {k : Nat} (hr : r2 = f.a - sumA (shares f) - (profit f).1) (h : MP m (((([] : List Pay) ++ shares f) ++ [(⟨f.m, (profit f).1⟩ : Pay)]) ++ [(⟨s, r2⟩ : Pay)].take k)) (hk : [(⟨s, r2⟩ : Pay)].length ≤ k) : MP m (allP f s) := by
  rw [List.take_of_length_le hk, hr] at h
  simpa [allP] using h
theorem keyr {f : Fee} {s : Int} {m : List (Int × Int)} {x : Int} {k : Nat} (hc : chk f = 0) (hs : ¬ (s < 0 ∨ s ≥ 192)) (h : MP m (allP f s)) (hx : (m.map (·.1))[k]? = some x) : -1 ≤ x ∧ x < 192 := by
  obtain ⟨y, hy, rfl⟩ := List.mem_map.1 (List.mem_of_getElem? hx)
  obtain ⟨p, hp, e⟩ := h.mem y hy
  rw [← e]
  simp only [allP, List.mem_append, List.mem_singleton] at hp
  rcases hp with (hp | rfl) | rfl
  · have := shares_mem hp; omega
  · dsimp only
    rcases chk_cases f with h2 | ⟨_, hh, _⟩
    · omega
    · unfold headOK at hh; omega
  · dsimp only; omega
theorem map_len {m : List (Int × Int)} {f : Fee} {s : Int} (h : MP m (allP f s)) : m.length ≤ 42 ∧ (m.map (·.1)).length ≤ 42 := by
  have h1 := h.len
  have h2 := shares_len f
  simp [allP] at h1
  rw [List.length_map]
  omega
end Go.Proofs.Ythpjlkpkhlkhbaa

/-
  maps.Keys and slices.Sorted at a map of the call's own: the keys, ascending. Conditions: those of each theorem.
-/
set_option linter.unusedVariables false
set_option linter.unusedSimpArgs false
namespace Go.Proofs.Ythpjlkpkhlkhbaa
open Go.DL Go.RowKit Go.Shelf Go.Sort Go.Maps
theorem sorts_in (m : Nat) : AnyZI.SortsIn Try.prog Try.lsorted_ren Fence.wide m :=
  ⟨fun blk off cap ss W hH hblk hsz => callsIn_wide.2 (AnyM.slices_Sort_int Try.lsortI blk off cap ss W hH hblk hsz),
   fun p cap W => callsIn_wide.2 (AnyM.slices_Sort_int_none Try.lsortI p cap W)⟩
theorem keys_ok : KeysOK Try.prog 34 33 3 3 3 := by
  refine ⟨⟨Try.f34, by kernel_rfl, by kernel_rfl, by kernel_rfl⟩, ⟨Try.f33, by kernel_rfl, by kernel_rfl, by kernel_rfl⟩, ?_⟩
  intro w b n l hown hn
  have hbl := hown.lt
  have cK : CallsIn Fence.wide 5 Try.prog 34 #[.map (some b)] w fun e w' => e = .returned (.func (.func 43) #[] #[.pointer (some ⟨w.heap.size, 0, none⟩)]) ∧ w' = w.alloc (.cells #[.map (some b)] 51) :=
    AnyZI.keys_in Try.lkeys Fence.wide 5 trivial rfl (some b) w
  refine (callsIn_wide.1 cK).mono ?_
  rintro e1 w1 ⟨rfl, rfl⟩
  refine ⟨_, rfl, (Below.refl _ w).alloc (Nat.le_refl _) _, ?_⟩
  have hsize : Maps.size (mapD l) = l.length := by simp [Maps.size, mapD]
  have hl : l.length ≤ n := by
    have := ownsMap_size hown
    obtain ⟨es, clock, _, _, hs, hD⟩ := hown
    have h2 := congrArg (fun d => match d with | DataW.map es => es.length | _ => 0) hD
    simp only [mapD, List.length_map] at h2
    rw [length_sorted] at h2
    simp at h2
    omega
  have hseq : SeqGives Fence.wide 2 Try.prog 43 #[.pointer (some ⟨w.heap.size, 0, none⟩)] encZ (fun ss => ss.Perm (intKeys (mapD l))) (Maps.size (mapD l)) (w.alloc (.cells #[.map (some b)] 51)) :=
    AnyZI.keys_gives (ρ := Try.lkeys_ren) { Try.lkeys with } Fence.wide _ trivial rfl (by omega) w.heap.size b n (mapD l) _ (by simp) (by simp) (hown.alloc _)
  have cS := AnyZI.sorted_in Try.lsorted Fence.wide 5 trivial trivial trivial trivial rfl (by omega) (sorts_in _) (enters_of Try.func42 (by kernel_rfl) rfl) 43 #[.pointer (some ⟨w.heap.size, 0, none⟩)] trivial
    (enters_of Try.func43 (by kernel_rfl) rfl) _ _ (by rw [hsize]; simp only [maxLen]; omega) (by rw [hsize]; omega) _ hseq
  change CallsIn _ _ Try.prog 33 _ _ _ at cS
  refine (callsIn_wide.1 cS).mono ?_
  rintro e2 w2 ⟨v, ss, rfl, hS, hrow, _, hb⟩
  exact ⟨v, ss, rfl, ((Below.refl _ w).alloc (Nat.le_refl _) _).trans (hb.mono (by simp)), hS, ownsRow_base_a hrow (by simp)⟩
end Go.Proofs.Ythpjlkpkhlkhbaa
