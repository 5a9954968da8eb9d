/-
  The data-level framework, part l: every operation, and regions in the order of the text. Generic in the program; no condition.
-/
import Derived.Test.YtpkbecaailhhmaaDLk
set_option linter.unusedVariables false
set_option linter.unusedSimpArgs false
namespace Go.DL
open Go.RowKit

def eStore (P : Program) (s : DS) (t : TypeId) (x y : LV) (h : Option D) : Option (Prop × DS) :=
  match P.info? t, y.cs s.bx with
  | some i, some cs => match cs.length == i.size && cs.all (C.fit s.bx) with
    | true => match x with
      | .one (.ref id off) => match s.bx.lookup id with
        | some (.var cs0) => match Nat.ble (off + cs.length) cs0.length with
          | true => some (True, s.setBox id (.var (cs0.take off ++ (cs ++ cs0.drop (off + cs.length)))))
          | false => none
        | _ => none
      | .one (.rref id k off) => match s.bx.lookup id, h, allDat cs with
        | some (.row e sz es), some (.tup [d, .sl _ es']), some ds => match d.putCells off ds with
          | some d' => some (es[k]? = some d ∧ es.set k d' = es', s.setBox id (.row e sz es'))
          | none => none
        | _, _, _ => none
      | _ => none
    | false => none
  | _, _ => none

def zeroD (P : Program) (e : TypeId) : Option D :=
  match P.info? e with
  | some i => match i.zero with
    | some z => match i.size == z.cells.size, allDat (z.cells.toList.map ofConstCell), P.underlying e with
      | true, some ds, some d => match d.isRow with
        | true => some (.agg ds)
        | false => match ds with
          | [x] => match x.one with
            | true => some x
            | false => none
          | _ => none
      | _, _, _ => none
    | none => none
  | none => none

def eMake (P : Program) (s : DS) (id : Nat) (d : Tmp) (t : TypeId) (l c : LV) : Option (Prop × DS) :=
  match P.underlying t, l, c with
  | some (.slice e), .one (.dat (.int _ n)), .one (.dat (.int _ m)) => match P.info? e, zeroD P e with
    | some ie, some z => some (0 ≤ n ∧ n ≤ m ∧ (ie.bytes : Int) * m ≤ 140737488355328 ∧ m ≤ 140737488355328,
        ((s.drop id).push id (.row e ie.size (List.replicate n.toNat z))).put (some d) (.one (.own id)))
    | _, _ => none
  | _, _, _ => none

/-- An operation that makes or changes own boxes. -/
def estep (P : Program) (base : Nat) (o : Oper) (s : DS) (h : Option D) : Option (Prop × DS) :=
  match o.op, o.dst with
  | .alloc t, some d => match zeroC P t with
    | some cs => some (True, ((s.drop (base + d)).push (base + d) (.var cs)).put (some d) (.one (.ref (base + d) 0)))
    | none => none
  | .box _ x, some d => match (s.ev x).cs s.bx with
    | some cs => some (True, ((s.drop (base + d)).push (base + d) (.var (cs.map (C.scrub (base + d))))).put (some d) (.one (.ref (base + d) 0)))
    | none => none
  | .store t x y, none => eStore P s t (s.ev x) (s.ev y) h
  | .buildSlice t len parts, some d => (sliceLit P s.bx t len (parts.toList.map fun p => (p.1, s.ev p.2))).map fun r =>
      (r.1, ((s.drop (base + d)).push (base + d) (.row r.2.1 r.2.2.1 r.2.2.2)).put (some d) (.one (.own (base + d))))
  | .makeSlice t l c, some d => eMake P s (base + d) d t (s.ev l) (s.ev c)
  | .call c, some d => match c.callee, c.args.toList, c.argTypes.toList with
    | .builtin .append, [x, y], [t, t'] => eAppend P s (base + d) d t t' (s.ev x) (s.ev y) h
    | _, _, _ => none
  | _, _ => none

structure Hint where
  g : Bool := true
  d : Option D := none

def dstep (P : Program) (base : Nat) (o : Oper) (s : DS) (h : Option D) : Option (Prop × DS) :=
  match estep P base o s h with
  | some r => some r
  | none => (pval P s.ev s.bx h o).map fun r => (r.1, s.put o.dst r.2)

/-- Is the operation carried out? (The hint says; what it says is a side condition.) -/
def wantB (ops : Array Oper) (o : Oper) (s : DS) (g : Bool) : Option (Prop × Bool) :=
  match o.guard with
  | none => some (True, true)
  | some (j, want) => match (ops[j]?).bind (·.dst) with
    | some t => match s.sl[t]? with
      | some (.one (.dat (.bool b))) => some ((b == want) = g, g)
      | some (.one (.dat (.tup []))) => some (True, false)
      | _ => none
    | none => none

/-- What an operation leaves that is not carried out. -/
abbrev UD : LV := .one (.dat (.tup []))

/-- The operations of a region, in the order of the text. -/
def dexec (P : Program) (base : Nat) (ops : Array Oper) : List Oper → List Hint → DS → Option (Prop × DS)
  | [], _, s => some (True, s)
  | o :: os, hs, s =>
    match wantB ops o s (hs.headD {}).g with
    | none => none
    | some (p, false) => match dexec P base ops os hs.tail (s.put o.dst UD) with
      | some (q, s') => some (p ∧ q, s')
      | none => none
    | some (p, true) => match dstep P base o s (hs.headD {}).d with
      | none => none
      | some (r, s1) => match dexec P base ops os hs.tail s1 with
        | some (q, s') => some (p ∧ r ∧ q, s')
        | none => none

section
variable {P : Program} {w : World} {A : Nat → Prop} {M : BMap}

theorem var_lookup_row {bx : List (Nat × Box)} (hb : ∀ id b, (id, b) ∈ bx → BoxOK w A M id b) {id : Nat} {cs : List C} (h : (id, Box.var cs) ∈ bx) : ∃ arr T, w.heap[M.blk id]? = some (.cells arr T (0, 0)) ∧ cellsRel w A M cs arr := hb id _ h

theorem eStore_sound {E : Env} {a : Act} {s s' : DS} {o : Oper} {t : TypeId} {x y : Operand} {h : Option D} {side : Prop} (hop : o.op = .store t x y) (hd : o.dst = none)
    (he : eStore P s t (s.ev x) (s.ev y) h = some (side, s')) (hs : side) (hst : St E M w a s) :
    ∀ (K : Act → World → Prop) (Q : Exit → Act → World → Prop), (∀ v w' M', St E M' w' (a.put o.dst v) s' → K (a.put o.dst v) w') → o.wp P a w K Q := by
  intro K Q hK
  have hx := ev_rel hst.size hst.slots x
  have hy := ev_rel hst.size hst.slots y
  unfold eStore at he
  split at he
  · rename_i i cs hi hcs
    split at he
    · rename_i hcond
      simp only [Bool.and_eq_true, beq_iff_eq] at hcond
      obtain ⟨hlen, hfit⟩ := hcond
      have hc := LV.cs_rel hst.boxes.ok hcs hy
      have hone := cells_fit_one hst.boxes.ok hfit hc
      have hvs : (a.eval y).cells.size = i.size := by rw [hc.1]; exact hlen
      have fin : ∀ (w' : World) (s1 : DS), (Instr.storeAt t (a.eval x) (a.eval y)).run P w = .ok () w' → St E M w' a s1 → s1 = s' → o.wp P a w K Q := by
        intro w' s1 hr hst' hss
        subst hss
        unfold Oper.wp
        have : (execOp a.eval o).run P w = .ok .skip w' := by simp [execOp, hop, hr]
        rw [this, Oper.upon_skip]
        exact hK undef w' M (by rw [hd]; exact hst')
      split at he
      · rename_i id off hxe
        rw [hxe] at hx
        simp only [LV.rel, C.rel] at hx
        split at he
        · rename_i cs0 hl
          split at he
          · rename_i hle
            simp only [Option.some.injEq, Prod.mk.injEq] at he
            obtain ⟨_, rfl⟩ := he
            have hle' := Nat.le_of_ble_eq_true hle
            have hm := lookup_mem hl
            obtain ⟨arr, T, hg, hcr⟩ := hst.boxes.ok id _ hm
            have hrun := run_storeAt_row (P := P) (off := off) hi hvs hg (by rw [hc.1]; have := hcr.1; omega) hone
            rw [← hx] at hrun
            refine fin _ _ hrun (hst.setBox (b := .var (cs0.take off ++ (cs ++ cs0.drop (off + cs.length)))) hm rfl (grownBy_setRow w _ _) fun A' hA' => ?_) rfl
            refine ⟨_, T, setRow_heap w _ arr _ T (0, 0) hg, ?_⟩
            exact cells_seg (hcr.mono hA') (hc.mono hA') hle'
          · cases he
        · cases he
      · rename_i id k off hxe
        rw [hxe] at hx
        simp only [LV.rel, C.rel] at hx
        split at he
        · rename_i e sz es d sz' es' ds hl hds
          split at he
          · rename_i d' hput
            simp only [Option.some.injEq, Prod.mk.injEq] at he
            obtain ⟨h1, rfl⟩ := he
            rw [← h1] at hs
            obtain ⟨hs, rfl⟩ := hs
            have hm := lookup_mem hl
            obtain ⟨xs, ho, huni, hM, hcc, hblk⟩ := hst.boxes.ok id _ hm
            obtain ⟨hple, hpc⟩ := putCells_cells hput
            obtain ⟨hdl, hfl⟩ := flat_put huni hs hple hpc
            have hcsd := allDat_map cs ds hds
            have hdsl : ds.length = cs.length := by rw [hcsd]; simp
            have hlt := (List.getElem?_eq_some_iff.1 hs).1
            have hbound : k * sz + sz ≤ es.length * sz := by rw [← Nat.succ_mul]; exact Nat.mul_le_mul_right _ hlt
            have hdsz : d.cells.length = sz := huni d (List.mem_of_getElem? hs)
            rcases ho.2 with ⟨_, h0⟩ | ⟨g, cap, cur, hrv, hb0, hg, hnc, hcm, hcz, htake⟩
            · omega
            · have hgb : g = M.blk id := hblk g (by rw [hrv]; rfl)
              subst hgb
              have hcap : es.length * sz ≤ cap * sz := Nat.mul_le_mul_right _ hnc
              have hvl : (a.eval y).cells.size = ds.length := by rw [hc.1, hdsl]
              rw [hM] at hx
              have hrun := run_storeAt_row (P := P) (off := k * sz + off) hi hvs hg (by rw [hvl, hcz]; omega) hone
              rw [← hx] at hrun
              refine fin _ _ hrun (hst.setBox (b := .row e sz (es.set k d')) hm rfl ?_ fun A' hA' => ?_) rfl
              · have := grownBy_setRow w (M.blk id) (cur.toList.take (k * sz + off) ++ (a.eval y).cells.toList ++ cur.toList.drop (k * sz + off + (a.eval y).cells.size)).toArray
                simpa [boxBlk, hrv, Value.ownBlock] using this
              · have hcurlen : cur.toList.length = cap * sz := by simpa using hcz
                have hxl : xs.length = es.length * sz := ho.1
                refine ⟨xs.take (k * sz + off) ++ (a.eval y).cells.toList ++ xs.drop (k * sz + off + (a.eval y).cells.toList.length), ⟨?_, .inr ⟨M.blk id, cap, _, by rw [List.length_set]; exact hrv, hb0, setRow_heap w _ cur _ e (0, 0) hg, by rw [List.length_set]; exact hnc, hcm, ?_, ?_⟩⟩, mem_set_cells huni hdl, hM, fun j c hj => ?_, hblk⟩
                · simp only [List.length_append, List.length_take, List.length_drop, List.length_set, Array.length_toList, hvl]
                  omega
                · have := seg_size cur (a.eval y).cells.toList (k * sz + off) (by simp only [Array.length_toList, hvl]; omega)
                  simp only [Array.length_toList] at this
                  rw [this, hcz]
                · apply List.ext_getElem?
                  intro j
                  rw [List.length_set, List.getElem?_take]
                  have s1 := seg_get cur.toList (a.eval y).cells.toList (k * sz + off) j (by simp only [Array.length_toList, hvl]; omega)
                  have s2 := seg_get xs (a.eval y).cells.toList (k * sz + off) j (by simp only [Array.length_toList, hvl]; omega)
                  simp only [Array.length_toList] at s1 s2
                  simp only [Array.length_toList]
                  rw [s2]
                  split
                  · rename_i hj
                    rw [s1]
                    split
                    · rfl
                    · rw [← htake, List.getElem?_take, if_pos hj]
                  · rename_i hj
                    rw [if_neg (by rw [hvl]; omega)]
                    rw [List.getElem?_eq_none (by omega)]
                · rw [hfl, seg_get _ _ _ _ (by rw [flat_length es huni]; omega)] at hj
                  have s2 := seg_get xs (a.eval y).cells.toList (k * sz + off) j (by simp only [Array.length_toList, hvl]; omega)
                  rw [s2]
                  simp only [Array.length_toList]
                  split at hj
                  · rename_i hin
                    rw [if_pos (by rw [hvl]; exact hin)]
                    have hj' : cs[j - (k * sz + off)]? = some (.dat c) := by rw [hcsd, List.getElem?_map, hj]; rfl
                    obtain ⟨u, hu, hr⟩ := hc.2 _ _ hj'
                    exact ⟨u, by simpa using hu, RelD.mono hA' hr⟩
                  · rename_i hout
                    rw [if_neg (by rw [hvl]; exact hout)]
                    obtain ⟨u, hu, hr⟩ := hcc j c hj
                    exact ⟨u, hu, hr.mono hA'⟩
          · cases he
        · cases he
      · cases he
    · cases he
  · cases he
end
end Go.DL
