/-
  The data-level framework, part j: operations that make or change own boxes. Generic in the program; no condition.
-/
import Derived.Test.YtpkbecaailhhmaaDLi
set_option linter.unusedVariables false
set_option linter.unusedSimpArgs false
namespace Go.DL
open Go.RowKit

def DS.setBox (id : Nat) (b : Box) (s : DS) : DS := { s with bx := s.bx.map fun p => match p.1 == id with | true => (id, b) | false => p }

section
variable {P : Program} {w : World} {A : Nat → Prop} {M : BMap}

theorem grownBy_setRow (w : World) (g : Nat) (cs : Array Value) : w.grownBy (w.setRow g cs) (some g) :=
  ⟨rfl, rfl, rfl, by simp, fun k _ hk => setRow_other w g k cs (fun e => hk (by rw [e]))⟩

theorem setBox_mem {s : DS} {id : Nat} {b : Box} {p : Nat × Box} (h : p ∈ (s.setBox id b).bx) : (p = (id, b)) ∨ (p ∈ s.bx ∧ p.1 ≠ id) := by
  simp only [DS.setBox, List.mem_map] at h
  obtain ⟨q, hq, he⟩ := h
  split at he
  · exact .inl he.symm
  · rename_i hne
    subst he
    exact .inr ⟨hq, by simpa using hne⟩

theorem setBox_blks (M : BMap) (id : Nat) (b b0 : Box) (hb : boxBlk M (id, b) = boxBlk M (id, b0)) : ∀ (bx : List (Nat × Box)), (∀ p ∈ bx, p.1 = id → p = (id, b0)) →
    (bx.map fun p => match p.1 == id with | true => (id, b) | false => p).map (boxBlk M) = bx.map (boxBlk M) := by
  intro bx h
  rw [List.map_map]
  refine List.map_congr_left fun p hp => ?_
  simp only [Function.comp_def]
  split
  · rename_i hi
    rw [h p hp (by simpa using hi)]
    exact hb
  · rfl

theorem ids_inj {bx : List (Nat × Box)} (h : (bx.map (·.1)).Nodup) : ∀ p ∈ bx, ∀ q ∈ bx, p.1 = q.1 → p = q := by
  induction bx with
  | nil => intro p hp; cases hp
  | cons x l ih =>
    intro p hp q hq he
    simp only [List.map_cons, List.nodup_cons, List.mem_map, not_exists, not_and] at h
    rcases List.mem_cons.1 hp with rfl | hp' <;> rcases List.mem_cons.1 hq with rfl | hq'
    · rfl
    · exact (h.1 q hq' he.symm).elim
    · exact (h.1 p hp' he).elim
    · exact ih h.2 p hp' q hq' he

theorem filterMap_of_map {α β : Type} (f : α → Option β) (l : List α) : l.filterMap f = (l.map f).filterMap fun x => x := by
  rw [List.filterMap_map]
  rfl

/-- A box is written in place. -/
theorem St.setBox {E : Env} {a : Act} {s : DS} {id : Nat} {b b0 : Box} {w' : World} (h : St E M w a s) (hl : (id, b0) ∈ s.bx) (hb : boxBlk M (id, b) = boxBlk M (id, b0)) (hg : w.grownBy w' (boxBlk M (id, b0)))
    (hok : ∀ A', Keeps w (Av E.A0 M s.bx) w' A' → BoxOK w' A' M id b) : St E M w' a (s.setBox id b) := by
  have hu : ∀ p ∈ s.bx, p.1 = id → p = (id, b0) := fun p hp he => ids_inj h.boxes.ids p hp _ hl he
  have hblks := setBox_blks M id b b0 hb s.bx hu
  have hAv : ∀ b', Av E.A0 M (s.setBox id b).bx b' ↔ Av E.A0 M s.bx b' := by
    intro b'
    have : ∀ bx : List (Nat × Box), (∃ p ∈ bx, boxBlk M p = some b') ↔ some b' ∈ bx.map (boxBlk M) := by simp
    unfold Av
    rw [this, this]
    show _ ∨ some b' ∈ (s.bx.map _).map _ ↔ _
    rw [hblks]
  have hk : Keeps w (Av E.A0 M s.bx) w' (Av E.A0 M (s.setBox id b).bx) := by
    refine Keeps.grown hg fun b' h1 h2 => ⟨fun e => h1 (.inr ⟨_, hl, e.symm⟩), fun h3 => h1 ((hAv b').1 h3)⟩
  have hbelow : Fr E.O E.w0 w' := h.boxes.frame.grown hg (fun k hk => (h.boxes.new _ hl k hk).1)
  exact {
    defers := h.defers
    size := h.size
    slots := fun t l hlt => (h.slots t l hlt).mono hk
    boxes := {
      ok := fun i b' hm => by
        rcases setBox_mem hm with he | ⟨hm', hne⟩
        · cases he; exact hok _ hk
        · refine (h.boxes.ok i b' hm').mono hk fun k hkk => hg.block k (h.boxes.new _ hm' k hkk).2 fun e => ?_
          have := blks_inj h.boxes.blks _ hm' _ hl k hkk e.symm
          cases this
          exact hne rfl
      ids := by
        have : (s.setBox id b).bx.map (·.1) = s.bx.map (·.1) := by
          simp only [DS.setBox, List.map_map]
          refine List.map_congr_left fun p hp => ?_
          simp only [Function.comp_def]
          split
          · rename_i hi; simpa using (by simpa using hi : p.1 = id).symm
          · rfl
        rw [this]; exact h.boxes.ids
      blks := by
        have e : (s.setBox id b).bx.filterMap (boxBlk M) = s.bx.filterMap (boxBlk M) := by
          have e1 := filterMap_of_map (boxBlk M) (s.setBox id b).bx
          have e2 := filterMap_of_map (boxBlk M) s.bx
          rw [e1, e2, show (s.setBox id b).bx.map (boxBlk M) = s.bx.map (boxBlk M) from hblks]
        rw [e]; exact h.boxes.blks
      new := fun p hp k hkk => by
        rcases setBox_mem hp with he | ⟨hm', hne⟩
        · subst he
          rw [hb] at hkk
          exact ⟨(h.boxes.new _ hl k hkk).1, Nat.lt_of_lt_of_le (h.boxes.new _ hl k hkk).2 hg.size⟩
        · exact ⟨(h.boxes.new p hm' k hkk).1, Nat.lt_of_lt_of_le (h.boxes.new p hm' k hkk).2 hg.size⟩
      foreign := h.boxes.foreign
      frame := hbelow
      old := fun p hp hlt => by
        rcases setBox_mem hp with he | ⟨hm', hne⟩
        · subst he; exact h.boxes.old (id, b0) hl hlt
        · exact h.boxes.old p hm' hlt } }

/-- Writing cells into a block. -/
theorem run_storeAt_row {t : TypeId} {i : TypeInfo} {g off : Nat} {arr : Array Value} {T : TypeId} {v : Value} (hi : P.info? t = some i) (hs : v.cells.size = i.size) (hg : w.heap[g]? = some (.cells arr T (0, 0))) (hle : off + v.cells.size ≤ arr.size) (h1 : ∀ u ∈ v.cells, u.oneCell' = true) :
    (Instr.storeAt t (.pointer (some ⟨g, off, none⟩)) v).run P w = .ok () (w.setRow g (arr.toList.take off ++ v.cells.toList ++ arr.toList.drop (off + v.cells.size)).toArray) := by
  have := run_storeCells_at P g off T v.cells.toList 0 arr w hg (by simpa using hle) (fun u hu => h1 u (by simpa using hu))
  simp [Instr.storeAt, Instr.sureAddr, storeVar, sizeOf, typeInfo, hi, hs]
  simpa [hs] using this

theorem seg_get {α : Type} (l vs : List α) (off j : Nat) (h : off + vs.length ≤ l.length) : (l.take off ++ vs ++ l.drop (off + vs.length))[j]? = if off ≤ j ∧ j < off + vs.length then vs[j - off]? else l[j]? := by
  have hm : (l.take off).length = off := by simp; omega
  rw [List.append_assoc, List.getElem?_append, hm]
  by_cases h1 : j < off
  · rw [if_pos h1, if_neg (by omega), List.getElem?_take, if_pos h1]
  · rw [if_neg h1, List.getElem?_append]
    by_cases h2 : j - off < vs.length
    · rw [if_pos h2, if_pos (by omega)]
    · rw [if_neg h2, if_neg (by omega), List.getElem?_drop]
      congr 1
      omega

theorem seg_size (arr : Array Value) (vs : List Value) (off : Nat) (h : off + vs.length ≤ arr.size) : (arr.toList.take off ++ vs ++ arr.toList.drop (off + vs.length)).toArray.size = arr.size := by
  simp; omega

theorem cells_seg {cs0 cs : List C} {arr : Array Value} {vs : Array Value} {off : Nat} (h0 : cellsRel w A M cs0 arr) (h : cellsRel w A M cs vs) (hle : off + cs.length ≤ cs0.length) :
    cellsRel w A M (cs0.take off ++ (cs ++ cs0.drop (off + cs.length))) (arr.toList.take off ++ vs.toList ++ arr.toList.drop (off + vs.size)).toArray := by
  have hs0 := h0.1
  have hs := h.1
  refine ⟨?_, fun j c hj => ?_⟩
  · have := seg_size arr vs.toList off (by simp; omega)
    simp only [Array.length_toList] at this
    rw [this]
    simp; omega
  · rw [← List.append_assoc, seg_get cs0 cs off j hle] at hj
    have hsg := seg_get arr.toList vs.toList off j (by simp; omega)
    simp only [Array.length_toList] at hsg
    rw [List.getElem?_toArray, hsg]
    split at hj
    · rename_i hin
      obtain ⟨u, hu, hr⟩ := h.2 _ c hj
      rw [if_pos (by omega)]
      exact ⟨u, by simpa using hu, hr⟩
    · rename_i hout
      obtain ⟨u, hu, hr⟩ := h0.2 _ c hj
      rw [if_neg (by omega)]
      exact ⟨u, by simpa using hu, hr⟩

theorem cells_fit_one {bx : List (Nat × Box)} (hb : ∀ id b, (id, b) ∈ bx → BoxOK w A M id b) {cs : List C} {arr : Array Value} (hf : cs.all (C.fit bx) = true) (h : cellsRel w A M cs arr) : ∀ u ∈ arr, u.oneCell' = true := by
  intro u hu
  obtain ⟨j, hj, rfl⟩ := Array.mem_iff_getElem.1 hu
  have hjl : j < cs.length := by rw [← h.1]; exact hj
  obtain ⟨v, hv, hr⟩ := h.2 j cs[j] (List.getElem?_eq_getElem hjl)
  rw [Array.getElem?_eq_getElem hj] at hv
  cases hv
  exact (C.fit_one hb (List.all_eq_true.1 hf _ (List.getElem_mem hjl)) hr).1

/-! ### elements of own rows -/
def allDat : List C → Option (List D)
  | [] => some []
  | .dat d :: l => (allDat l).map (d :: ·)
  | _ :: _ => none

def D.putCells (e : D) (off : Nat) (ds : List D) : Option D :=
  match e, off, ds with
  | .agg l, off, ds => match Nat.ble (off + ds.length) l.length with
    | true => some (.agg (l.take off ++ (ds ++ l.drop (off + ds.length))))
    | false => none
  | _, 0, [x] => match x.one with
    | true => some x
    | false => none
  | _, _, _ => none

theorem allDat_map : ∀ (cs : List C) (ds : List D), allDat cs = some ds → cs = ds.map .dat
  | [], ds, h => by simp [allDat] at h; subst h; rfl
  | .dat d :: l, ds, h => by
    simp only [allDat, Option.map_eq_some_iff] at h
    obtain ⟨r, hr, rfl⟩ := h
    rw [allDat_map l r hr]; rfl
  | .own _ :: _, _, h => by simp [allDat] at h
  | .ref _ _ :: _, _, h => by simp [allDat] at h
  | .rref _ _ _ :: _, _, h => by simp [allDat] at h
  | .fn _ _ :: _, _, h => by simp [allDat] at h
  | .junk :: _, _, h => by simp [allDat] at h

theorem putCells_cells {e e' : D} {off : Nat} {ds : List D} (h : e.putCells off ds = some e') : off + ds.length ≤ e.cells.length ∧ e'.cells = e.cells.take off ++ ds ++ e.cells.drop (off + ds.length) := by
  have single : ∀ x : D, (∀ l, x ≠ .agg l) → x.cells = [x] := by
    intro x hx
    cases x <;> first | rfl | (exact (hx _ rfl).elim)
  by_cases hagg : ∃ l, e = .agg l
  · obtain ⟨l, rfl⟩ := hagg
    simp only [D.putCells] at h
    split at h
    · rename_i hle
      cases h
      exact ⟨Nat.le_of_ble_eq_true hle, by simp [D.cells]⟩
    · cases h
  · have hne : ∀ l, e ≠ .agg l := fun l hl => hagg ⟨l, hl⟩
    rcases off with _ | off
    · rcases ds with _ | ⟨x, _ | ⟨y, ds⟩⟩
      · cases e <;> first | (exact (hne _ rfl).elim) | (simp [D.putCells] at h)
      · have hx : x.one = true ∧ e' = x := by
          cases e <;> first | (exact (hne _ rfl).elim) | skip
          all_goals
            simp only [D.putCells] at h
            split at h
            · rename_i hx; cases h; exact ⟨hx, rfl⟩
            · cases h
        have h1 := single e hne
        have h2 := single x (fun l hl => by rw [hl] at hx; simp [D.one] at hx)
        rw [hx.2, h1, h2]
        simp
      · cases e <;> first | (exact (hne _ rfl).elim) | (simp [D.putCells] at h)
    · cases e <;> first | (exact (hne _ rfl).elim) | (simp [D.putCells] at h)

theorem flat_set {sz : Nat} {es : List D} (hu : ∀ e ∈ es, e.cells.length = sz) {i : Nat} {e e' : D} (he : es[i]? = some e) : flat (es.set i e') = (flat es).take (i * sz) ++ e'.cells ++ (flat es).drop (i * sz + sz) := by
  have hlt := (List.getElem?_eq_some_iff.1 he).1
  rw [List.set_eq_take_append_cons_drop, if_pos hlt, flat_append, flat_cons, flat_take es i hu, flat_drop es (i + 1) hu, Nat.add_mul, Nat.one_mul, List.append_assoc]

theorem mem_set_cells {sz : Nat} {es : List D} (hu : ∀ e ∈ es, e.cells.length = sz) {i : Nat} {e' : D} (he : e'.cells.length = sz) : ∀ d ∈ es.set i e', d.cells.length = sz := by
  intro d hd
  rcases List.mem_or_eq_of_mem_set hd with h | h
  · exact hu d h
  · rw [h]; exact he

/-- One element of an own row is written. -/
theorem flat_put {sz : Nat} {es : List D} (hu : ∀ e ∈ es, e.cells.length = sz) {i off : Nat} {e e' : D} {ds : List D} (he : es[i]? = some e) (hle : off + ds.length ≤ e.cells.length) (hc : e'.cells = e.cells.take off ++ ds ++ e.cells.drop (off + ds.length)) :
    e'.cells.length = sz ∧ flat (es.set i e') = (flat es).take (i * sz + off) ++ ds ++ (flat es).drop (i * sz + off + ds.length) := by
  have hsz : e.cells.length = sz := hu e (List.mem_of_getElem? he)
  have h1 : e'.cells.length = sz := by rw [hc]; simp; omega
  refine ⟨h1, ?_⟩
  have hlt := (List.getElem?_eq_some_iff.1 he).1
  have hfl : (flat es).length = es.length * sz := flat_length es hu
  have hb : i * sz + sz ≤ es.length * sz := by rw [← Nat.succ_mul]; exact Nat.mul_le_mul_right _ hlt
  rw [flat_set hu he]
  apply List.ext_getElem?
  intro j
  have e1 : i * sz + sz = i * sz + e'.cells.length := by rw [h1]
  rw [e1, seg_get _ _ _ _ (by omega), seg_get _ _ _ _ (by omega), hc]
  by_cases hj : i * sz ≤ j ∧ j < i * sz + (e.cells.take off ++ ds ++ e.cells.drop (off + ds.length)).length
  · rw [if_pos hj, seg_get _ _ _ _ hle]
    have hjs : j - i * sz < sz := by
      have := hj.2
      simp at this
      omega
    by_cases hin : i * sz + off ≤ j ∧ j < i * sz + off + ds.length
    · rw [if_pos hin, if_pos (by omega)]
      congr 1
      omega
    · rw [if_neg hin, if_neg (by omega)]
      have hlt' : j - i * sz < e.cells.length := by omega
      have := flat_get hu he (List.getElem?_eq_getElem hlt')
      rw [show i * sz + (j - i * sz) = j by omega] at this
      rw [this, List.getElem?_eq_getElem hlt']
  · rw [if_neg hj, if_neg]
    intro hin
    apply hj
    refine ⟨by omega, ?_⟩
    simp
    omega
end
end Go.DL
