/-
  The data-level framework, part p: calls that are entered with the caller's boxes; boxes that become immutable data. Generic in the program; no condition.
-/
import Derived.Test.YtpkbecaailhhmaaDLo
set_option linter.unusedVariables false
set_option linter.unusedSimpArgs false
namespace Go.DL
open Go.RowKit

def C.keep (ok : Nat → Bool) : C → C
  | .own i => match ok i with | true => .own i | false => .junk
  | .ref i o => match ok i with | true => .ref i o | false => .junk
  | .rref i k o => match ok i with | true => .rref i k o | false => .junk
  | .fn f caps => match caps.all (fun c => match c with | .inl i => ok i | .inr _ => true) with | true => .fn f caps | false => .junk
  | c => c

def LV.keep (ok : Nat → Bool) : LV → LV
  | .one c => .one (c.keep ok)
  | .agg cs => .agg (cs.map (C.keep ok))
  | .tup vs => .tup (vs.map fun p => (p.1, p.2.map (C.keep ok)))

def capLV : Sum Nat D → LV
  | .inl i => .one (.ref i 0)
  | .inr d => .one (.dat d)

def partOf : LV → Bool × List C
  | .one c => (false, [c])
  | .agg cs => (true, cs)
  | .tup _ => (false, [])

def resLV (ls : List LV) : LV :=
  match ls with
  | [l] => l
  | ls => .tup (ls.map partOf)

def liveIn (bx : List (Nat × Box)) (base : Nat) (i : Nat) : Bool := Nat.blt i base && bx.any fun p => p.1 == i

/-- The caller's state behind the call. -/
def DS.back (s : DS) (bx : List (Nat × Box)) (base : Nat) : DS := ⟨s.sl.map (LV.keep (liveIn bx base)), bx⟩

def inlinePost (P : Program) (fn : Func) (base' : Nat) (N : DS → Prop) (dst : Option Tmp) (s : DS) : DX → DS → Prop
  | .normal, s' => ∃ ls, dres P s' fn.results.toList = some ls ∧ N ((s.back s'.bx base').put dst (resLV ls))
  | .ret, s' => ∃ ls, dres P s' fn.results.toList = some ls ∧ N ((s.back s'.bx base').put dst (resLV ls))
  | _, _ => False

section
variable {P : Program} {w : World} {A : Nat → Prop} {M M' : BMap}

theorem C.keep_rel {ok : Nat → Bool} {c : C} {v : Value} (hM : ∀ i, ok i = true → M'.blk i = M.blk i ∧ M'.rv i = M.rv i ∧ M'.sz i = M.sz i) (h : C.rel w A M c v) : C.rel w A M' (c.keep ok) v := by
  cases c with
  | own i =>
    simp only [C.keep]
    split
    · rename_i hi; simpa [C.rel, hM i hi] using h
    · trivial
  | ref i o =>
    simp only [C.keep]
    split
    · rename_i hi; simpa [C.rel, hM i hi] using h
    · trivial
  | rref i k o =>
    simp only [C.keep]
    split
    · rename_i hi; simpa [C.rel, hM i hi] using h
    · trivial
  | fn f caps =>
    simp only [C.keep]
    split
    · rename_i hi
      obtain ⟨arr, h1, h2, h3⟩ := h
      refine ⟨arr, h1, h2, fun j c hj => ?_⟩
      obtain ⟨u, hu, hr⟩ := h3 j c hj
      refine ⟨u, hu, ?_⟩
      cases c with
      | inl i =>
        have := List.all_eq_true.1 hi _ (List.mem_of_getElem? hj)
        simp only at this
        simpa [capRel, hM i this] using hr
      | inr d => exact hr
    · trivial
  | dat d => exact h
  | junk => trivial

theorem cells_keep {ok : Nat → Bool} {cs : List C} {arr : Array Value} (hM : ∀ i, ok i = true → M'.blk i = M.blk i ∧ M'.rv i = M.rv i ∧ M'.sz i = M.sz i) (h : cellsRel w A M cs arr) : cellsRel w A M' (cs.map (C.keep ok)) arr := by
  refine ⟨by simp [h.1], fun j c hj => ?_⟩
  simp only [List.getElem?_map, Option.map_eq_some_iff] at hj
  obtain ⟨c', hc', rfl⟩ := hj
  obtain ⟨u, hu, hr⟩ := h.2 j c' hc'
  exact ⟨u, hu, C.keep_rel hM hr⟩

theorem LV.keep_rel {ok : Nat → Bool} {l : LV} {v : Value} (hM : ∀ i, ok i = true → M'.blk i = M.blk i ∧ M'.rv i = M.rv i ∧ M'.sz i = M.sz i) (h : LV.rel w A M l v) : LV.rel w A M' (l.keep ok) v := by
  cases l with
  | one c => exact C.keep_rel hM h
  | agg cs => exact let ⟨arr, h1, h2⟩ := h; ⟨arr, h1, cells_keep hM h2⟩
  | tup ps =>
    obtain ⟨arr, h1, h2, h3⟩ := h
    refine ⟨arr, h1, by simp [h2], fun j p hj => ?_⟩
    simp only [List.getElem?_map, Option.map_eq_some_iff] at hj
    obtain ⟨q, hq, rfl⟩ := hj
    obtain ⟨u, hu, hr⟩ := h3 j q hq
    refine ⟨u, hu, ?_⟩
    obtain ⟨b, cs⟩ := q
    cases b with
    | true => exact let ⟨arr, h1, h2⟩ := hr; ⟨arr, h1, cells_keep hM h2⟩
    | false =>
      match cs, hr with
      | [], _ => trivial
      | [c], hr => exact C.keep_rel hM hr
      | _ :: _ :: _, _ => trivial

theorem partOf_rel {l : LV} {v : Value} (h : LV.rel w A M l v) : partRel w A M (partOf l) v := by
  cases l with
  | one c => exact h
  | agg cs => exact h
  | tup ps => trivial

theorem resLV_rel {ls : List LV} {vs : List Value} (hl : vs.length = ls.length) (h : ∀ (j : Nat) (l : LV), ls[j]? = some l → ∃ u, vs[j]? = some u ∧ LV.rel w A M l u) :
    LV.rel w A M (resLV ls) (if h : vs.toArray.size = 1 then vs.toArray[0] else .tuple vs.toArray) := by
  unfold resLV
  split
  · rename_i l
    have : vs.length = 1 := by rw [hl]; rfl
    obtain ⟨x, rfl⟩ := List.length_eq_one_iff.1 this
    obtain ⟨u, hu, hr⟩ := h 0 l rfl
    simp at hu
    subst hu
    simpa using hr
  · rename_i hne
    have hne1 : vs.toArray.size ≠ 1 := by
      intro he
      have : ls.length = 1 := by rw [← hl]; simpa using he
      obtain ⟨l, rfl⟩ := List.length_eq_one_iff.1 this
      exact hne l rfl
    rw [dif_neg hne1]
    refine ⟨vs.toArray, rfl, by simp [hl], fun j p hj => ?_⟩
    simp only [List.getElem?_map, Option.map_eq_some_iff] at hj
    obtain ⟨l, hlj, rfl⟩ := hj
    obtain ⟨u, hu, hr⟩ := h j l hlj
    exact ⟨u, by simpa using hu, partOf_rel hr⟩

/-- A CALL THAT IS ENTERED WITH THE CALLER's BOXES. -/
theorem TL_inline {base : Nat} {ops : Array Oper} {o : Oper} {rest : List Oper} {Q : DX → DS → Prop} {s : DS} (base' : Nat) {fop : Operand} {args : Array Operand} {ts : Array TypeId} (f : FuncId) (caps : List (Sum Nat D)) (fn : Func) (c : Code)
    (ho : o.op = .call { callee := .value fop, args := args, argTypes := ts }) (hg : o.guard = none) (hf : s.ev fop = .one (.fn f caps)) (hfn : P.funcs[f]? = some fn) (hname : (fn.name == "runtime.NumGoroutine") = false) (hb : fn.body = some c) (hbase : base ≤ base')
    (h : T P base' c (inlinePost P fn base' (TL P base ops rest Q) o.dst s) ⟨args.toList.map s.ev ++ (caps.map capLV ++ List.replicate (fn.ntmps - (args.size + caps.length)) (.one .junk)), s.bx⟩) : TL P base ops (o :: rest) Q s := by
  intro E M w a hE hst
  refine wpList_plain hg fun K hK => ?_
  have hslots := ev_rel hst.size hst.slots
  have hfr := hslots fop
  rw [hf] at hfr
  obtain ⟨cv, hfv, hcs, hcv⟩ := hfr
  unfold Oper.wp
  rw [run_call_func ho hfv ⟨fn, hfn, hname, by rw [hb]; rfl⟩, Oper.upon_enter]
  let E' : Env := ⟨w, E.A0, base', M, fun k => ∃ p ∈ s.bx, boxBlk M p = some k, fun i => i ∈ s.bx.map (·.1)⟩
  have hO : ∀ k, E'.O k → (E.O k ∨ E.w0.heap.size ≤ k) ∧ k < w.heap.size := fun k ⟨p, hp, hk⟩ => hst.boxes.new p hp k hk
  have hbx' : Boxes E' M w s.bx := {
    ok := hst.boxes.ok
    ids := hst.boxes.ids
    blks := hst.boxes.blks
    new := fun p hp k hk => ⟨.inl ⟨p, hp, hk⟩, (hst.boxes.new p hp k hk).2⟩
    foreign := fun b hb => by
      have h1 := hst.boxes.foreign b hb
      refine ⟨Nat.lt_of_lt_of_le h1.1 hst.boxes.frame.size, fun hob => ?_⟩
      rcases (hO b hob).1 with h2 | h2
      · exact h1.2 h2
      · have := h1.1; omega
    frame := Fr.refl _ _
    old := fun p hp _ => ⟨List.mem_map.2 ⟨p, hp, rfl⟩, rfl, rfl, rfl⟩ }
  refine calls_of_wp hfn hb ?_
  have hst' : St E' M w { tmps := args.map a.eval ++ cv ++ Array.replicate (fn.ntmps - (args.map a.eval ++ cv).size) undef, defers := [] } ⟨args.toList.map s.ev ++ (caps.map capLV ++ List.replicate (fn.ntmps - (args.size + caps.length)) (.one .junk)), s.bx⟩ := by
    refine ⟨rfl, by simp [hcs], fun t l hl => ?_, hbx'⟩
    rw [List.getElem?_append] at hl
    simp only [List.length_map, Array.length_toList] at hl
    rw [Array.append_assoc, Array.getD_eq_getD_getElem?, Array.getElem?_append]
    simp only [Array.size_map]
    split at hl
    · rename_i hlt
      simp only [List.getElem?_map, Option.map_eq_some_iff, Array.getElem?_toList] at hl
      obtain ⟨x, hx, rfl⟩ := hl
      rw [if_pos hlt]
      simp only [Array.getElem?_map, hx, Option.map_some, Option.getD_some]
      exact hslots x
    · rename_i hge
      rw [if_neg hge]
      rw [List.getElem?_append] at hl
      simp only [List.length_map] at hl
      rw [Array.getElem?_append, hcs]
      split at hl
      · rename_i hlt
        rw [if_pos hlt]
        simp only [List.getElem?_map, Option.map_eq_some_iff] at hl
        obtain ⟨cp, hcp, rfl⟩ := hl
        obtain ⟨u, hu, hr⟩ := hcv _ cp hcp
        rw [hu, Option.getD_some]
        cases cp with
        | inl i => exact hr
        | inr d => exact hr
      · rw [List.getElem?_replicate] at hl
        split at hl
        · cases hl; trivial
        · cases hl
  refine wp_mono (h E' M w _ rfl hst') ?_
  rintro e a' w' ⟨x, s', M', hx, hq, hst2⟩
  have hFr : Fr E.O E.w0 w' := by
    have h1 := hst2.boxes.frame
    have h2 := hst.boxes.frame
    refine ⟨h1.os.trans h2.os, h1.tape.trans h2.tape, h1.output.trans h2.output, Nat.le_trans h2.size h1.size, fun k hk hok => ?_⟩
    refine (h1.block k (Nat.lt_of_lt_of_le hk h2.size) fun hob => ?_).trans (h2.block k hk hok)
    rcases (hO k hob).1 with h3 | h3
    · exact hok h3
    · omega
  have hBox : Boxes E M' w' s'.bx := {
    ok := hst2.boxes.ok
    ids := hst2.boxes.ids
    blks := hst2.boxes.blks
    new := fun p hp k hk => by
      obtain ⟨h1, h2⟩ := hst2.boxes.new p hp k hk
      refine ⟨?_, h2⟩
      rcases h1 with h1 | h1
      · exact (hO k h1).1
      · exact .inr (Nat.le_trans hst.boxes.frame.size h1)
    foreign := hst.boxes.foreign
    frame := hFr
    old := fun p hp hlt => by
      obtain ⟨h1, h2, h3, h4⟩ := hst2.boxes.old p hp (Nat.lt_of_lt_of_le hlt (by show E.base ≤ base'; omega))
      obtain ⟨p0, hp0, he⟩ := List.mem_map.1 h1
      have := hst.boxes.old p0 hp0 (by rw [he]; exact hlt)
      rw [he] at this
      obtain ⟨g1, g2, g3, g4⟩ := this
      exact ⟨g1, h2.trans g2, h3.trans g3, h4.trans g4⟩ }
  have hKeeps : Keeps w (Av E.A0 M s.bx) w' (Av E.A0 M' s'.bx) := by
    intro b off u h1 h2
    have hlt := World.block_lt_of_cell? w ⟨b, off, none⟩ h2
    have hnO : ¬ E'.O b := fun hob => h1 (.inr hob)
    refine ⟨fun h3 => ?_, ?_⟩
    · rcases h3 with h3 | ⟨p, hp, hk⟩
      · exact h1 (.inl h3)
      · rcases (hst2.boxes.new p hp b hk).1 with h4 | h4
        · exact hnO h4
        · exact absurd hlt (Nat.not_lt.2 h4)
    · rw [World.cell?_of_block (hst2.boxes.frame.block b hlt hnO)]; exact h2
  have hlive : ∀ i, liveIn s'.bx base' i = true → M'.blk i = M.blk i ∧ M'.rv i = M.rv i ∧ M'.sz i = M.sz i := by
    intro i hi
    simp only [liveIn, Bool.and_eq_true, List.any_eq_true, beq_iff_eq] at hi
    obtain ⟨h1, p, hp, he⟩ := hi
    have hlt : i < base' := by simpa [Nat.blt_eq] using h1
    obtain ⟨_, h2, h3, h4⟩ := hst2.boxes.old p hp (by rw [he]; exact hlt)
    rw [he] at h2 h3 h4
    exact ⟨h2, h3, h4⟩
  have hcall : St E M' w' a (s.back s'.bx base') := by
    refine ⟨hst.defers, by simp [DS.back, hst.size], fun t l hl => ?_, hBox⟩
    simp only [DS.back, List.getElem?_map, Option.map_eq_some_iff] at hl
    obtain ⟨l', hl', rfl⟩ := hl
    exact LV.keep_rel hlive ((hst.slots t l' hl').mono hKeeps)
  have key : (∃ ls, dres P s' fn.results.toList = some ls ∧ TL P base ops rest Q ((s.back s'.bx base').put o.dst (resLV ls))) → ∃ v, (results fn a'.tmps).run P w' = .ok v w' ∧ K (a.put o.dst v) w' := by
    rintro ⟨ls, h1, h2⟩
    obtain ⟨vs, h3, h4, h5⟩ := dres_run (P := P) hst2 _ ls h1
    exact ⟨_, results_run fn a'.tmps vs h3, hK _ _ (h2 E M' w' _ hE (hcall.put o.dst (resLV_rel h4 h5)))⟩
  cases x with
  | normal =>
    cases e <;> simp only [XRel] at hx
    obtain ⟨v, hv, hr⟩ := key hq
    exact ⟨hst2.defers, v, hv, hr⟩
  | ret =>
    cases e <;> simp only [XRel] at hx
    obtain ⟨v, hv, hr⟩ := key hq
    exact ⟨hst2.defers, v, hv, hr⟩
  | exit id => exact hq.elim
  | panic d => exact hq.elim

/-- Operations of a region one part after the other: first those that are run at once, then what is left. -/
theorem TL_append {base : Nat} {ops : Array Oper} {Q : DX → DS → Prop} : ∀ (l1 l2 : List Oper) (hs : List Hint) (s s' : DS) (side : Prop), dexec P base ops l1 hs s = some (side, s') → side → TL P base ops l2 Q s' → TL P base ops (l1 ++ l2) Q s
  | [], l2, hs, s, s', side, h, _, hq => by
    simp only [dexec, Option.some.injEq, Prod.mk.injEq] at h
    obtain ⟨_, rfl⟩ := h
    exact hq
  | o :: os, l2, hs, s, s', side, h, hside, hq => by
    unfold dexec at h
    split at h
    · cases h
    · rename_i p hw
      split at h
      · rename_i q s2 h2
        simp only [Option.some.injEq, Prod.mk.injEq] at h
        obtain ⟨h1, rfl⟩ := h
        rw [← h1] at hside
        intro E M w a hb hst
        rw [List.cons_append]
        refine wpList_step fun K hK => ?_
        rw [wantB_sound hw hside.1 hst]
        simp only [Bool.false_eq_true, if_false]
        exact hK _ _ (TL_append os l2 _ _ _ q h2 hside.2 hq E M w _ hb (hst.put o.dst (l := UD) ud_rel))
      · cases h
    · rename_i p hw
      split at h
      · cases h
      · rename_i r s1 h3
        split at h
        · rename_i q s2 h2
          simp only [Option.some.injEq, Prod.mk.injEq] at h
          obtain ⟨h1, rfl⟩ := h
          rw [← h1] at hside
          intro E M w a hb hst
          rw [List.cons_append]
          refine wpList_step fun K hK => ?_
          rw [wantB_sound hw hside.1 hst]
          simp only [if_true]
          exact dstep_sound h3 hside.2.1 hst hb K _ fun v w' M' hst' => hK _ _ (TL_append os l2 _ _ _ q h2 hside.2.2 hq E M' w' _ hb hst')
        · cases h

theorem T_region_parts {base id : Nat} {l : List Oper} {Q : DX → DS → Prop} {s : DS} (n : Nat) (hs : List Hint) (s' : DS) (side : Prop) (h : dexec P base l.toArray (l.take n) hs s = some (side, s')) (hside : side) (hq : TL P base l.toArray (l.drop n) Q s') : T P base (.region id l.toArray false) Q s :=
  fun E M w a hb hst => wp_region_lit (by
    have := TL_append (P := P) (base := base) (Q := Q) (l.take n) (l.drop n) hs s s' side h hside hq E M w a hb hst
    rwa [List.take_append_drop] at this)

theorem TL_all {base : Nat} {ops : Array Oper} {l : List Oper} {Q : DX → DS → Prop} {s : DS} (hs : List Hint) (s' : DS) (side : Prop) (h : dexec P base ops l hs s = some (side, s')) (hside : side) (hq : Q .normal s') : TL P base ops l Q s :=
  dexec_sound l hs s s' side h hside hq

/-! ### boxes that become immutable data -/
def C.freeze (id : Nat) (od : Option D) (rd : Option (List D)) : C → C
  | .own i => match i == id with
    | true => match od with
      | some d => .dat d
      | none => .junk
    | false => .own i
  | .ref i o => match i == id with
    | true => match rd with
      | some ds => .dat (.ptr (ds.drop o))
      | none => .junk
    | false => .ref i o
  | .rref i k o => match i == id with
    | true => .junk
    | false => .rref i k o
  | .fn f caps => match caps.any (fun c => match c with | .inl i => i == id | .inr _ => false) with
    | false => .fn f caps
    | true => match rd with
      | some ds => .fn f (caps.map fun c => match c with | .inl i => (match i == id with | true => .inr (.ptr ds) | false => .inl i) | .inr d => .inr d)
      | none => .junk
  | c => c

def LV.freeze (id : Nat) (od : Option D) (rd : Option (List D)) : LV → LV
  | .one c => .one (c.freeze id od rd)
  | .agg cs => .agg (cs.map (C.freeze id od rd))
  | .tup vs => .tup (vs.map fun p => (p.1, p.2.map (C.freeze id od rd)))

def Box.freeze (id : Nat) (od : Option D) (rd : Option (List D)) : Box → Box
  | .var cs => .var (cs.map (C.freeze id od rd))
  | b => b

def boxData : Box → Option D × Option (List D)
  | .row _ sz es => (some (.sl sz es), none)
  | .var cs => (none, allDat cs)

def DS.freeze (id : Nat) (s : DS) : DS :=
  match s.bx.lookup id with
  | some b => { sl := s.sl.map (LV.freeze id (boxData b).1 (boxData b).2), bx := (s.bx.filter fun p => !(p.1 == id)).map fun p => (p.1, p.2.freeze id (boxData b).1 (boxData b).2) }
  | none => s

theorem C.freeze_rel {id : Nat} {od : Option D} {rd : Option (List D)} {c : C} {v : Value} (h1 : ∀ d, od = some d → RelD w A d (M.rv id)) (h2 : ∀ ds, rd = some ds → ∀ o, RelD w A (.ptr (ds.drop o)) (.pointer (some ⟨M.blk id, o, none⟩))) (h : C.rel w A M c v) :
    C.rel w A M (c.freeze id od rd) v := by
  cases c with
  | own i =>
    simp only [C.freeze]
    split
    · rename_i hi
      have : i = id := by simpa using hi
      subst this
      split
      · rename_i d
        simp only [C.rel] at h
        subst h
        exact h1 d rfl
      · trivial
    · exact h
  | ref i o =>
    simp only [C.freeze]
    split
    · rename_i hi
      have : i = id := by simpa using hi
      subst this
      split
      · rename_i ds
        simp only [C.rel] at h
        subst h
        exact h2 ds rfl o
      · trivial
    · exact h
  | rref i k o =>
    simp only [C.freeze]
    split
    · trivial
    · exact h
  | fn f caps =>
    simp only [C.freeze]
    split
    · exact h
    · split
      · rename_i ds
        obtain ⟨arr, g1, g2, g3⟩ := h
        refine ⟨arr, g1, by simp [g2], fun j c hj => ?_⟩
        simp only [List.getElem?_map, Option.map_eq_some_iff] at hj
        obtain ⟨c', hc', rfl⟩ := hj
        obtain ⟨u, hu, hr⟩ := g3 j c' hc'
        refine ⟨u, hu, ?_⟩
        cases c' with
        | inl i =>
          simp only
          split
          · rename_i hi
            have : i = id := by simpa using hi
            subst this
            simp only [capRel] at hr ⊢
            subst hr
            exact h2 ds rfl 0
          · exact hr
        | inr d => exact hr
      · trivial
  | dat d => exact h
  | junk => trivial

theorem cells_freeze {id : Nat} {od : Option D} {rd : Option (List D)} {cs : List C} {arr : Array Value} (h1 : ∀ d, od = some d → RelD w A d (M.rv id)) (h2 : ∀ ds, rd = some ds → ∀ o, RelD w A (.ptr (ds.drop o)) (.pointer (some ⟨M.blk id, o, none⟩))) (h : cellsRel w A M cs arr) :
    cellsRel w A M (cs.map (C.freeze id od rd)) arr := by
  refine ⟨by simp [h.1], fun j c hj => ?_⟩
  simp only [List.getElem?_map, Option.map_eq_some_iff] at hj
  obtain ⟨c', hc', rfl⟩ := hj
  obtain ⟨u, hu, hr⟩ := h.2 j c' hc'
  exact ⟨u, hu, C.freeze_rel h1 h2 hr⟩

theorem LV.freeze_rel {id : Nat} {od : Option D} {rd : Option (List D)} {l : LV} {v : Value} (h1 : ∀ d, od = some d → RelD w A d (M.rv id)) (h2 : ∀ ds, rd = some ds → ∀ o, RelD w A (.ptr (ds.drop o)) (.pointer (some ⟨M.blk id, o, none⟩))) (h : LV.rel w A M l v) :
    LV.rel w A M (l.freeze id od rd) v := by
  cases l with
  | one c => exact C.freeze_rel h1 h2 h
  | agg cs => exact let ⟨arr, g1, g2⟩ := h; ⟨arr, g1, cells_freeze h1 h2 g2⟩
  | tup ps =>
    obtain ⟨arr, g1, g2, g3⟩ := h
    refine ⟨arr, g1, by simp [g2], fun j p hj => ?_⟩
    simp only [List.getElem?_map, Option.map_eq_some_iff] at hj
    obtain ⟨q, hq, rfl⟩ := hj
    obtain ⟨u, hu, hr⟩ := g3 j q hq
    refine ⟨u, hu, ?_⟩
    obtain ⟨b, cs⟩ := q
    cases b with
    | true => exact let ⟨arr, g1, g2⟩ := hr; ⟨arr, g1, cells_freeze h1 h2 g2⟩
    | false =>
      match cs, hr with
      | [], _ => trivial
      | [c], hr => exact C.freeze_rel h1 h2 hr
      | _ :: _ :: _, _ => trivial

theorem boxBlk_freeze {id : Nat} {od : Option D} {rd : Option (List D)} {i : Nat} {b : Box} : boxBlk M (i, b.freeze id od rd) = boxBlk M (i, b) := by
  cases b <;> rfl

/-- A box becomes immutable data. -/
theorem DS.le_freeze (s : DS) (id : Nat) : s.Le (s.freeze id) := by
  intro E M w a h
  unfold DS.freeze
  split
  case h_2 => exact ⟨M, h⟩
  rename_i b hl
  have hm := lookup_mem hl
  refine ⟨M, ?_⟩
  generalize hod : (boxData b).1 = od
  generalize hrd : (boxData b).2 = rd
  let bx' := (s.bx.filter fun p => !(p.1 == id)).map fun p => (p.1, p.2.freeze id od rd)
  have hmem : ∀ p ∈ bx', p.1 ≠ id ∧ ∃ b', (p.1, b') ∈ s.bx ∧ p.2 = b'.freeze id od rd := by
    intro p hp
    simp only [bx', List.mem_map, List.mem_filter] at hp
    obtain ⟨q, ⟨hq, hne⟩, rfl⟩ := hp
    exact ⟨by simpa using hne, q.2, hq, rfl⟩
  have hblk : ∀ p ∈ bx', ∀ k, boxBlk M p = some k → ∃ q ∈ s.bx, boxBlk M q = some k ∧ q.1 = p.1 := by
    intro p hp k hk
    obtain ⟨hne, b', hb', he⟩ := hmem p hp
    obtain ⟨i, bb⟩ := p
    simp only at he
    subst he
    rw [boxBlk_freeze] at hk
    exact ⟨_, hb', hk, rfl⟩
  have hsub : ∀ k, Av E.A0 M bx' k → Av E.A0 M s.bx k ∧ boxBlk M (id, b) ≠ some k := by
    rintro k (hk | ⟨p, hp, hk⟩)
    · refine ⟨.inl hk, fun hb => ?_⟩
      have h1 := (h.boxes.new _ hm k hb).1
      have h2 := h.boxes.foreign k hk
      rcases h1 with h1 | h1
      · exact h2.2 h1
      · have := h2.1; omega
    · obtain ⟨q, hq, hqk, hqi⟩ := hblk p hp k hk
      refine ⟨.inr ⟨q, hq, hqk⟩, fun hb => ?_⟩
      have := blks_inj h.boxes.blks q hq _ hm k hqk hb
      rw [this] at hqi
      exact (hmem p hp).1 hqi.symm
  have hk : Keeps w (Av E.A0 M s.bx) w (Av E.A0 M bx') := Keeps.sub fun k hk => (hsub k hk).1
  have h1 : ∀ d, od = some d → RelD w (Av E.A0 M bx') d (M.rv id) := by
    intro d hd
    cases b with
    | var cs => simp [boxData] at hod; rw [← hod] at hd; cases hd
    | row e sz es =>
      simp only [boxData] at hod
      rw [← hod] at hd
      cases hd
      exact row_rel _ (fun k hk => ⟨(hsub k hk).1, by have := (hsub k hk).2; simpa [boxBlk] using this⟩) (h.boxes.ok id _ hm)
  have h2 : ∀ ds, rd = some ds → ∀ o, RelD w (Av E.A0 M bx') (.ptr (ds.drop o)) (.pointer (some ⟨M.blk id, o, none⟩)) := by
    intro ds hds o
    cases b with
    | row e sz es => simp [boxData] at hrd; rw [← hrd] at hds; cases hds
    | var cs =>
      simp only [boxData] at hrd
      rw [← hrd] at hds
      have hcs := allDat_map cs ds hds
      obtain ⟨arr, T, hg, hc⟩ := h.boxes.ok id _ hm
      have hnot : ¬ Av E.A0 M bx' (M.blk id) := fun hb => (hsub _ hb).2 rfl
      have hcell : ∀ (j : Nat) (c : D), ds[j]? = some c → ∃ u, arr[j]? = some u ∧ RelD w (Av E.A0 M bx') c u := by
        intro j c hj
        obtain ⟨u, hu, hr⟩ := hc.2 j (.dat c) (by rw [hcs, List.getElem?_map, hj]; rfl)
        exact ⟨u, hu, RelD.mono hk hr⟩
      refine .ptr _ (M.blk id) o (fun j => arr.getD (o + j) undef) (fun j c hj => ?_) (fun j c hj => ?_)
      · rw [List.getElem?_drop] at hj
        obtain ⟨u, hu, _⟩ := hcell _ c hj
        exact ⟨hnot, by rw [cell_of_row w _ _ arr T (0, 0) hg]; simp [hu]⟩
      · rw [List.getElem?_drop] at hj
        obtain ⟨u, hu, hr⟩ := hcell _ c hj
        simpa [hu] using hr
  refine ⟨h.defers, by simp [h.size], fun t l hl' => ?_, ?_⟩
  · simp only [List.getElem?_map, Option.map_eq_some_iff] at hl'
    obtain ⟨l', hl2, rfl⟩ := hl'
    exact LV.freeze_rel h1 h2 ((h.slots t l' hl2).mono hk)
  · refine {
      ok := fun i b' hb => ?_
      ids := ?_
      blks := ?_
      new := fun p hp k hpk => ?_
      foreign := h.boxes.foreign
      frame := h.boxes.frame
      old := fun p hp hlt => ?_ }
    · obtain ⟨hne, b0, hb0, he⟩ := hmem _ hb
      simp only at he
      subst he
      have hok := (h.boxes.ok i b0 hb0).mono hk (fun _ _ => rfl)
      cases b0 with
      | var cs =>
        obtain ⟨arr, T, g1, g2⟩ := hok
        exact ⟨arr, T, g1, cells_freeze h1 h2 g2⟩
      | row e sz es => exact hok
    · have : bx'.map (·.1) = (s.bx.filter fun p => !(p.1 == id)).map (·.1) := by simp [bx', List.map_map]
      show (bx'.map (·.1)).Nodup
      rw [this]
      exact (h.boxes.ids.sublist ((List.filter_sublist).map _))
    · have : bx'.filterMap (boxBlk M) = (s.bx.filter fun p => !(p.1 == id)).filterMap (boxBlk M) := by
        simp only [bx', List.filterMap_map]
        refine filterMap_congr' fun p _ => ?_
        show boxBlk M (p.1, p.2.freeze id od rd) = boxBlk M p
        rw [boxBlk_freeze]
      show (bx'.filterMap (boxBlk M)).Nodup
      rw [this]
      exact h.boxes.blks.sublist ((List.filter_sublist).filterMap _)
    · obtain ⟨q, hq, hqk, _⟩ := hblk p hp k hpk
      exact h.boxes.new q hq k hqk
    · obtain ⟨hne, b0, hb0, he⟩ := hmem p hp
      exact h.boxes.old (p.1, b0) hb0 hlt
end
end Go.DL
